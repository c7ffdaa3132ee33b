/- Part 2 of the proof: lemmas that the row of the law leans on; nothing is assumed. -/
import Derived.KernelRfl
import Derived.Test.YtbldkkabkijpgaaProg
import Derived.Test.YtbldkkabkijpgaaK1
namespace Go.Proofs.Ytbldkkabkijpgaa
open Go.Am
def s98 : SFn := ⟨.seq (.reg [⟨some 1, .lbox (.tmp 0), none⟩,
    ⟨some 2, .mov (.const (.string ⟨#[]⟩)), none⟩]) (
 .seq (.block 0 (.seq (.reg [⟨some 4, .faddr 0 (.tmp 1), none⟩,
      ⟨some 5, .load none (.tmp 4), none⟩,
      ⟨some 6, .mov (.tmp 5), none⟩,
      ⟨some 7, .faddr 1 (.tmp 1), some (6, true)⟩,
      ⟨some 8, .load none (.tmp 7), some (6, true)⟩,
      ⟨some 9, .len (.tmp 8), some (6, true)⟩,
      ⟨some 10, .bin .gtr 0 3 (.tmp 9) (.const (.int .i64 0)), some (6, true)⟩,
      ⟨some 11, .pick (.tmp 6) (.tmp 10) (.const (.bool false)), none⟩,
      ⟨some 3, .mov (.tmp 11), none⟩]) (
   .cond (.tmp 3) (.seq (.reg [⟨some 12, .faddr 1 (.tmp 1), none⟩,
       ⟨some 13, .load none (.tmp 12), none⟩,
       ⟨some 14, .iaddr 2 (.tmp 13) (.const (.int .i64 0)), none⟩,
       ⟨some 15, .faddr 0 (.tmp 14), none⟩,
       ⟨some 16, .load none (.tmp 15), none⟩,
       ⟨some 2, .mov (.tmp 16), none⟩]) (
    .ret)) (.seq (.reg [⟨some 18, .faddr 0 (.tmp 1), none⟩,
       ⟨some 19, .load none (.tmp 18), none⟩,
       ⟨some 20, .un .not (.tmp 19), none⟩,
       ⟨some 21, .mov (.tmp 20), none⟩,
       ⟨some 22, .faddr 2 (.tmp 1), some (21, true)⟩,
       ⟨some 23, .load none (.tmp 22), some (21, true)⟩,
       ⟨some 24, .len (.tmp 23), some (21, true)⟩,
       ⟨some 25, .bin .gtr 0 3 (.tmp 24) (.const (.int .i64 0)), some (21, true)⟩,
       ⟨some 26, .pick (.tmp 21) (.tmp 25) (.const (.bool false)), none⟩,
       ⟨some 17, .mov (.tmp 26), none⟩]) (
    .seq (.keep [1, 17] [1]) (.cond (.tmp 17) (.seq (.reg [⟨some 27, .faddr 2 (.tmp 1), none⟩,
        ⟨some 28, .load none (.tmp 27), none⟩,
        ⟨some 29, .iaddr 5 (.tmp 28) (.const (.int .i64 0)), none⟩,
        ⟨some 30, .faddr 0 (.tmp 29), none⟩,
        ⟨some 31, .load none (.tmp 30), none⟩,
        ⟨some 2, .mov (.tmp 31), none⟩]) (
     .ret)) (.skip))))))) (
 .seq (.keep [] []) (.seq (.reg [⟨some 2, .mov (.const (.string ⟨#[]⟩)), none⟩]) (
 .ret)))),
  [.tmp 2]⟩
theorem m98 : mFn Try.prog 98 s98 = true := by kernel_rfl
def s99 : SFn := ⟨.seq (.reg [⟨some 1, .lbox (.tmp 0), none⟩,
    ⟨some 2, .lalloc [.bool false, .slice none 0 0, .slice none 0 0], none⟩]) (
 .seq (.dreg [⟨some 6, .faddr 0 (.tmp 1), none⟩,
    ⟨some 7, .load none (.tmp 6), none⟩,
    ⟨some 8, .faddr 2 (.tmp 1), none⟩,
    ⟨some 9, .load none (.tmp 8), none⟩,
    ⟨some 10, .call 128 [.tmp 9], none⟩,
    ⟨some 11, .build [.bool false, .slice none 0 0, .slice none 0 0] [(0, 1, .tmp 7), (2, 1, .tmp 10)], none⟩,
    ⟨some 3, .lalloc [.bool false, .slice none 0 0, .slice none 0 0], none⟩,
    ⟨none, .store (some 3) (.tmp 3) (.tmp 11), none⟩] [(1, 3), (1, 4), (1, 6), (3, 6), (4, 6)]) (
 .seq (.seq (.reg [⟨some 12, .faddr 1 (.tmp 1), none⟩,
     ⟨some 13, .load none (.tmp 12), none⟩,
     ⟨some 14, .len (.tmp 13), none⟩,
     ⟨some 15, .mov (.const (.int .i64 0)), none⟩]) (
  .block 0 (.loop (.seq (.keep [2, 3, 13, 14, 15] [2, 3]) (.seq (.reg [⟨some 16, .bin .lss 0 3 (.tmp 15) (.tmp 14), none⟩]) (
    .seq (.cond (.tmp 16) (.skip) (.exit 0)) (
    .seq (.block 1 (.seq (.reg [⟨some 17, .iaddr 2 (.tmp 13) (.tmp 15), none⟩,
         ⟨some 18, .load (some 2) (.tmp 17), none⟩,
         ⟨some 5, .lalloc [.string ⟨#[]⟩, .slice none 0 0], none⟩,
         ⟨none, .store (some 2) (.tmp 5) (.tmp 18), none⟩]) (
      .dreg [⟨some 19, .faddr 1 (.tmp 3), none⟩,
        ⟨some 20, .load none (.tmp 19), none⟩,
        ⟨some 21, .faddr 0 (.tmp 5), none⟩,
        ⟨some 22, .load none (.tmp 21), none⟩,
        ⟨some 23, .faddr 1 (.tmp 5), none⟩,
        ⟨some 24, .load none (.tmp 23), none⟩,
        ⟨some 25, .call 56 [.tmp 24], none⟩,
        ⟨some 26, .build [.string ⟨#[]⟩, .slice none 0 0] [(0, 1, .tmp 22), (1, 1, .tmp 25)], none⟩,
        ⟨some 27, .bimm 2 [.string ⟨#[]⟩, .slice none 0 0] 1 [(0, .tmp 26)], none⟩,
        ⟨some 28, .app 2 40 false (.tmp 20) (.tmp 27), none⟩,
        ⟨some 29, .faddr 1 (.tmp 3), none⟩,
        ⟨none, .store none (.tmp 29) (.tmp 28), none⟩] [(1, 3), (1, 5), (3, 5), (1, 6), (3, 6)]))) (
    .seq (.keep [2, 3, 13, 14, 15] [2, 3]) (.reg [⟨some 30, .bin .add 0 3 (.tmp 15) (.const (.int .i64 1)), none⟩,
      ⟨some 15, .mov (.tmp 30), none⟩]))))))))) (
 .seq (.reg [⟨some 31, .load (some 3) (.tmp 3), none⟩,
    ⟨none, .store (some 3) (.tmp 2) (.tmp 31), none⟩]) (
 .ret)))),
  [.cell 2 (some 3)]⟩
theorem m99 : mFn Try.prog 99 s99 = true := by kernel_rfl
def s100 : SFn := ⟨.seq (.reg [⟨some 4, .mov (.const (.bool false)), none⟩]) (
 .seq (.reg [⟨some 5, .mov (.tmp 0), none⟩,
    ⟨some 6, .mov (.tmp 1), none⟩,
    ⟨some 7, .call 129 [.tmp 5, .tmp 6], none⟩,
    ⟨some 8, .bin .geq 0 3 (.tmp 7) (.const (.int .i64 0)), none⟩,
    ⟨some 4, .mov (.tmp 8), none⟩]) (
 .ret)),
  [.tmp 4]⟩
theorem m100 : mFn Try.prog 100 s100 = true := by kernel_rfl
def s105 : SFn := ⟨.seq (.reg [⟨some 6, .mov (.const (.slice none 0 0)), none⟩]) (
 .seq (.reg [⟨some 8, .mov (.tmp 0), none⟩,
    ⟨some 9, .mov (.tmp 1), none⟩,
    ⟨some 10, .mov (.tmp 2), none⟩,
    ⟨some 11, .mov (.tmp 0), none⟩,
    ⟨some 12, .len (.tmp 11), none⟩,
    ⟨some 13, .slc 2 (.tmp 8) (some (.tmp 9)) (some (.tmp 10)) (some (.tmp 12)), none⟩]) (
 .seq (.seq (.reg [⟨some 14, .mov (.tmp 1), none⟩,
     ⟨some 15, .mov (.tmp 2), none⟩,
     ⟨some 16, .bin .eql 0 3 (.tmp 14) (.tmp 15), none⟩]) (
  .cond (.tmp 16) (.seq (.reg [⟨some 17, .mov (.tmp 0), none⟩,
      ⟨some 6, .mov (.tmp 17), none⟩]) (
   .ret)) (.skip))) (
 .seq (.reg [⟨some 18, .mov (.tmp 0), none⟩,
    ⟨some 19, .len (.tmp 18), none⟩,
    ⟨some 7, .mov (.tmp 19), none⟩]) (
 .seq (.keep [0, 1, 2, 7] []) (.seq (.dreg [⟨some 20, .mov (.tmp 0), none⟩,
    ⟨some 21, .mov (.tmp 1), none⟩,
    ⟨some 22, .slc 2 (.tmp 20) none (some (.tmp 21)) none, none⟩,
    ⟨some 23, .mov (.tmp 0), none⟩,
    ⟨some 24, .mov (.tmp 2), none⟩,
    ⟨some 25, .slc 2 (.tmp 23) (some (.tmp 24)) none none, none⟩,
    ⟨some 26, .app 2 40 false (.tmp 22) (.tmp 25), none⟩,
    ⟨some 0, .mov (.tmp 26), none⟩] []) (
 .seq (.reg [⟨some 27, .mov (.tmp 0), none⟩,
    ⟨some 28, .mov (.tmp 0), none⟩,
    ⟨some 29, .len (.tmp 28), none⟩,
    ⟨some 30, .mov (.tmp 7), none⟩,
    ⟨some 31, .slc 2 (.tmp 27) (some (.tmp 29)) (some (.tmp 30)) none, none⟩,
    ⟨none, .clr 2 [.string ⟨#[]⟩, .slice none 0 0] (.tmp 31), none⟩]) (
 .seq (.reg [⟨some 32, .mov (.tmp 0), none⟩,
    ⟨some 6, .mov (.tmp 32), none⟩]) (
 .ret)))))))),
  [.tmp 6]⟩
theorem m105 : mFn Try.prog 105 s105 = true := by kernel_rfl
def s106 : SFn := ⟨.seq (.reg [⟨some 6, .lbox (.tmp 0), none⟩,
    ⟨some 7, .lbox (.tmp 1), none⟩,
    ⟨some 10, .lbox (.tmp 4), none⟩,
    ⟨some 12, .mov (.const (.slice none 0 0)), none⟩,
    ⟨some 13, .mov (.const (.int .i64 0)), none⟩]) (
 .seq (.reg [⟨some 18, .mov (.tmp 3), none⟩,
    ⟨some 19, .bin .mul 0 3 (.const (.int .i64 2)) (.tmp 18), none⟩,
    ⟨some 20, .bin .add 0 3 (.tmp 19) (.const (.int .i64 1)), none⟩,
    ⟨some 21, .mov (.tmp 2), none⟩,
    ⟨some 22, .bin .sub 0 3 (.tmp 20) (.tmp 21), none⟩,
    ⟨some 14, .mov (.tmp 22), none⟩]) (
 .seq (.dreg [⟨some 24, .load (some 1) (.tmp 6), none⟩,
    ⟨some 25, .faddr 0 (.tmp 7), none⟩,
    ⟨some 26, .faddr 2 (.tmp 25), none⟩,
    ⟨some 27, .load none (.tmp 26), none⟩,
    ⟨some 28, .mov (.tmp 14), none⟩,
    ⟨some 29, .iaddr 5 (.tmp 27) (.tmp 28), none⟩,
    ⟨some 30, .faddr 1 (.tmp 29), none⟩,
    ⟨some 31, .load (some 4) (.tmp 30), none⟩,
    ⟨some 32, .mov (.tmp 5), none⟩,
    ⟨some 33, .bin .add 0 3 (.tmp 32) (.const (.int .i64 1)), none⟩,
    ⟨some 34, .call 83 [.tmp 24, .tmp 31, .tmp 33], none⟩,
    ⟨some 23, .mov (.tmp 34), none⟩,
    ⟨some 35, .ext (.tmp 23) 0, none⟩,
    ⟨some 36, .ext (.tmp 23) 1, none⟩,
    ⟨some 15, .lalloc [.bool false, .slice none 0 0, .slice none 0 0], none⟩,
    ⟨none, .store (some 3) (.tmp 15) (.tmp 35), none⟩,
    ⟨some 16, .mov (.tmp 36), none⟩] [(0, 3), (0, 7), (0, 14), (3, 14), (7, 14), (10, 14)]) (
 .seq (.keep [2, 10, 14, 15, 16] [10, 15]) (.seq (.seq (.reg [⟨some 37, .mov (.tmp 16), none⟩,
     ⟨some 38, .bin .neq 0 29 (.tmp 37) (.const (.int .i64 0)), none⟩]) (
  .cond (.tmp 38) (.seq (.reg [⟨some 39, .mov (.tmp 16), none⟩,
      ⟨some 12, .mov (.const (.slice none 0 0)), none⟩,
      ⟨some 13, .mov (.tmp 39), none⟩]) (
   .ret)) (.skip))) (
 .seq (.seq (.reg [⟨some 40, .faddr 0 (.tmp 15), none⟩,
     ⟨some 41, .faddr 0 (.tmp 40), none⟩,
     ⟨some 42, .load none (.tmp 41), none⟩,
     ⟨some 43, .faddr 0 (.tmp 10), none⟩,
     ⟨some 44, .faddr 0 (.tmp 43), none⟩,
     ⟨some 45, .load none (.tmp 44), none⟩,
     ⟨some 46, .bin .neq 1 4 (.tmp 42) (.tmp 45), none⟩]) (
  .cond (.tmp 46) (.seq (.reg [⟨some 12, .mov (.const (.slice none 0 0)), none⟩,
      ⟨some 13, .mov (.const (.int .i64 70)), none⟩]) (
   .ret)) (.skip))) (
 .seq (.seq (.reg [⟨some 47, .mov (.tmp 14), none⟩,
     ⟨some 48, .mov (.tmp 2), none⟩,
     ⟨some 49, .bin .lss 0 3 (.tmp 47) (.tmp 48), none⟩]) (
  .seq (.keep [10, 15, 49] [10, 15]) (.cond (.tmp 49) (.reg [⟨some 50, .load (some 3) (.tmp 15), none⟩,
     ⟨some 51, .load (some 3) (.tmp 10), none⟩,
     ⟨none, .store (some 3) (.tmp 10) (.tmp 50), none⟩,
     ⟨none, .store (some 3) (.tmp 15) (.tmp 51), none⟩]) (.skip)))) (
 .seq (.reg [⟨some 52, .load (some 3) (.tmp 10), none⟩,
    ⟨some 53, .load (some 3) (.tmp 15), none⟩,
    ⟨some 54, .call 130 [.tmp 52, .tmp 53], none⟩,
    ⟨some 17, .lalloc [.bool false, .slice none 0 0, .slice none 0 0], none⟩,
    ⟨none, .store (some 3) (.tmp 17) (.tmp 54), none⟩]) (
 .seq (.seq (.reg [⟨some 55, .load (some 3) (.tmp 17), none⟩,
     ⟨some 56, .call 96 [.tmp 55], none⟩,
     ⟨some 57, .bin .lss 0 3 (.tmp 56) (.const (.int .i64 4)), none⟩]) (
  .cond (.tmp 57) (.seq (.reg [⟨some 58, .load (some 3) (.tmp 17), none⟩,
      ⟨some 59, .bslice 3 [.bool false, .slice none 0 0, .slice none 0 0] 1 [(0, .tmp 58)], none⟩,
      ⟨some 12, .mov (.tmp 59), none⟩,
      ⟨some 13, .mov (.const (.int .i64 0)), none⟩]) (
   .ret)) (.skip))) (
 .seq (.keep [17] [17]) (.seq (.reg [⟨some 60, .load (some 3) (.tmp 17), none⟩,
    ⟨some 61, .call 97 [.tmp 60], none⟩,
    ⟨some 12, .mov (.tmp 61), none⟩,
    ⟨some 13, .mov (.const (.int .i64 0)), none⟩]) (
 .ret))))))))))),
  [.tmp 12, .tmp 13]⟩
theorem m106 : mFn Try.prog 106 s106 = true := by kernel_rfl
def s114 : SFn := ⟨.seq (.reg [⟨some 6, .mov (.const (.int .i64 0)), none⟩,
    ⟨some 7, .mov (.const (.bool false)), none⟩]) (
 .seq (.reg [⟨some 12, .mov (.tmp 0), none⟩,
    ⟨some 13, .len (.tmp 12), none⟩,
    ⟨some 8, .mov (.tmp 13), none⟩]) (
 .seq (.reg [⟨some 14, .mov (.tmp 8), none⟩,
    ⟨some 9, .mov (.const (.int .i64 0)), none⟩,
    ⟨some 10, .mov (.tmp 14), none⟩]) (
 .seq (.block 0 (.loop (.seq (.keep [0, 1, 2, 8, 9, 10] []) (.seq (.seq (.reg [⟨some 15, .mov (.tmp 9), none⟩,
        ⟨some 16, .mov (.tmp 10), none⟩,
        ⟨some 17, .bin .lss 0 3 (.tmp 15) (.tmp 16), none⟩]) (
     .cond (.tmp 17) (.skip) (.exit 0))) (
    .block 1 (.seq (.reg [⟨some 18, .mov (.tmp 9), none⟩,
        ⟨some 19, .mov (.tmp 10), none⟩,
        ⟨some 20, .bin .add 0 3 (.tmp 18) (.tmp 19), none⟩,
        ⟨some 21, .conv .u64 (.tmp 20), none⟩,
        ⟨some 22, .bin .shr 0 152 (.tmp 21) (.const (.int .u64 1)), none⟩,
        ⟨some 23, .conv .i64 (.tmp 22), none⟩,
        ⟨some 11, .mov (.tmp 23), none⟩]) (
     .seq (.reg [⟨some 24, .mov (.tmp 2), none⟩,
        ⟨some 25, .mov (.tmp 0), none⟩,
        ⟨some 26, .mov (.tmp 11), none⟩,
        ⟨some 27, .iaddr 2 (.tmp 25) (.tmp 26), none⟩,
        ⟨some 28, .load (some 2) (.tmp 27), none⟩,
        ⟨some 29, .mov (.tmp 1), none⟩,
        ⟨some 30, .callv (.tmp 24) [.tmp 28, .tmp 29], none⟩,
        ⟨some 31, .bin .lss 0 3 (.tmp 30) (.const (.int .i64 0)), none⟩]) (
     .seq (.keep [0, 1, 2, 8, 9, 10, 11, 31] []) (.cond (.tmp 31) (.reg [⟨some 32, .mov (.tmp 11), none⟩,
        ⟨some 33, .bin .add 0 3 (.tmp 32) (.const (.int .i64 1)), none⟩,
        ⟨some 9, .mov (.tmp 33), none⟩]) (.reg [⟨some 34, .mov (.tmp 11), none⟩,
        ⟨some 10, .mov (.tmp 34), none⟩])))))))))) (
 .seq (.reg [⟨some 35, .mov (.tmp 9), none⟩,
    ⟨some 36, .mov (.tmp 9), none⟩,
    ⟨some 37, .mov (.tmp 8), none⟩,
    ⟨some 38, .bin .lss 0 3 (.tmp 36) (.tmp 37), none⟩,
    ⟨some 39, .mov (.tmp 38), none⟩,
    ⟨some 40, .mov (.tmp 2), some (39, true)⟩,
    ⟨some 41, .mov (.tmp 0), some (39, true)⟩,
    ⟨some 42, .mov (.tmp 9), some (39, true)⟩,
    ⟨some 43, .iaddr 2 (.tmp 41) (.tmp 42), some (39, true)⟩,
    ⟨some 44, .load (some 2) (.tmp 43), some (39, true)⟩,
    ⟨some 45, .mov (.tmp 1), some (39, true)⟩,
    ⟨some 46, .callv (.tmp 40) [.tmp 44, .tmp 45], some (39, true)⟩,
    ⟨some 47, .bin .eql 0 3 (.tmp 46) (.const (.int .i64 0)), some (39, true)⟩,
    ⟨some 48, .pick (.tmp 39) (.tmp 47) (.const (.bool false)), none⟩,
    ⟨some 6, .mov (.tmp 35), none⟩,
    ⟨some 7, .mov (.tmp 48), none⟩]) (
 .ret))))),
  [.tmp 6, .tmp 7]⟩
theorem m114 : mFn Try.prog 114 s114 = true := by kernel_rfl
def s115 : SFn := ⟨.seq (.reg [⟨some 2, .lbox (.tmp 0), none⟩,
    ⟨some 4, .mov (.const (.int .i64 0)), none⟩]) (
 .seq (.block 0 (.seq (.reg [⟨some 6, .faddr 0 (.tmp 2), none⟩,
      ⟨some 7, .load none (.tmp 6), none⟩,
      ⟨some 8, .mov (.tmp 1), none⟩,
      ⟨some 9, .bin .lss 0 9 (.tmp 7) (.tmp 8), none⟩,
      ⟨some 5, .mov (.tmp 9), none⟩]) (
   .cond (.tmp 5) (.seq (.reg [⟨some 4, .mov (.const (.int .i64 (-1))), none⟩]) (
    .ret)) (.seq (.reg [⟨some 11, .faddr 0 (.tmp 2), none⟩,
       ⟨some 12, .load none (.tmp 11), none⟩,
       ⟨some 13, .mov (.tmp 1), none⟩,
       ⟨some 14, .bin .gtr 0 9 (.tmp 12) (.tmp 13), none⟩,
       ⟨some 10, .mov (.tmp 14), none⟩]) (
    .cond (.tmp 10) (.seq (.reg [⟨some 4, .mov (.const (.int .i64 1)), none⟩]) (
     .ret)) (.skip)))))) (
 .seq (.reg [⟨some 4, .mov (.const (.int .i64 0)), none⟩]) (
 .ret))),
  [.tmp 4]⟩
theorem m115 : mFn Try.prog 115 s115 = true := by kernel_rfl
def s120 : SFn := ⟨.seq (.reg [⟨some 2, .lalloc [.int .u64 0, .int .i64 0, .int .i64 0, .int .i64 0], none⟩]) (
 .seq (.reg [⟨some 3, .mov (.tmp 0), none⟩,
    ⟨some 4, .conv .u64 (.tmp 3), none⟩,
    ⟨some 5, .bin .add 0 26 (.tmp 4) (.const (.int .u64 1)), none⟩,
    ⟨some 6, .mov (.tmp 0), none⟩,
    ⟨some 7, .bin .quo 0 3 (.tmp 6) (.const (.int .i64 4)), none⟩,
    ⟨some 8, .mov (.tmp 0), none⟩,
    ⟨some 9, .bin .rem 0 3 (.tmp 8) (.const (.int .i64 4)), none⟩,
    ⟨some 10, .build [.int .u64 0, .int .i64 0, .int .i64 0, .int .i64 0] [(0, 1, .tmp 5), (1, 1, .tmp 7), (2, 1, .tmp 9), (3, 1, .const (.int .i64 1))], none⟩,
    ⟨none, .store (some 4) (.tmp 2) (.tmp 10), none⟩]) (
 .ret)),
  [.cell 2 (some 4)]⟩
theorem m120 : mFn Try.prog 120 s120 = true := by kernel_rfl
def s127 : SFn := ⟨.seq (.reg [⟨some 2, .mov (.const (.slice none 0 0)), none⟩]) (
 .seq (.seq (.reg [⟨some 3, .mov (.tmp 0), none⟩,
     ⟨some 4, .bin .eql 3 46 (.tmp 3) (.const (.slice none 0 0)), none⟩]) (
  .cond (.tmp 4) (.seq (.reg [⟨some 2, .mov (.const (.slice none 0 0)), none⟩]) (
   .ret)) (.skip))) (
 .seq (.reg [⟨some 5, .bslice 2 [.string ⟨#[]⟩, .slice none 0 0] 0 [], none⟩,
    ⟨some 6, .mov (.tmp 0), none⟩,
    ⟨some 7, .app 2 40 false (.tmp 5) (.tmp 6), none⟩,
    ⟨some 2, .mov (.tmp 7), none⟩]) (
 .ret))),
  [.tmp 2]⟩
theorem m127 : mFn Try.prog 127 s127 = true := by kernel_rfl
def s128 : SFn := ⟨.seq (.reg [⟨some 2, .mov (.const (.slice none 0 0)), none⟩]) (
 .seq (.seq (.reg [⟨some 3, .mov (.tmp 0), none⟩,
     ⟨some 4, .bin .eql 3 47 (.tmp 3) (.const (.slice none 0 0)), none⟩]) (
  .cond (.tmp 4) (.seq (.reg [⟨some 2, .mov (.const (.slice none 0 0)), none⟩]) (
   .ret)) (.skip))) (
 .seq (.reg [⟨some 5, .bslice 5 [.string ⟨#[]⟩, .int .u64 0, .int .i64 0, .int .i64 0, .int .i64 0] 0 [], none⟩,
    ⟨some 6, .mov (.tmp 0), none⟩,
    ⟨some 7, .app 5 48 false (.tmp 5) (.tmp 6), none⟩,
    ⟨some 2, .mov (.tmp 7), none⟩]) (
 .ret))),
  [.tmp 2]⟩
theorem m128 : mFn Try.prog 128 s128 = true := by kernel_rfl
def s129 : SFn := ⟨.seq (.reg [⟨some 4, .mov (.const (.int .i64 0)), none⟩]) (
 .seq (.seq (.reg [⟨some 6, .mov (.tmp 0), none⟩,
     ⟨some 7, .len (.tmp 6), none⟩,
     ⟨some 8, .mov (.const (.int .i64 0)), none⟩]) (
  .block 0 (.loop (.seq (.keep [0, 1, 7, 8] []) (.seq (.reg [⟨some 9, .bin .lss 0 3 (.tmp 8) (.tmp 7), none⟩]) (
    .seq (.cond (.tmp 9) (.skip) (.exit 0)) (
    .seq (.block 1 (.seq (.reg [⟨some 10, .mov (.tmp 8), none⟩,
         ⟨some 5, .mov (.tmp 10), none⟩]) (
      .seq (.reg [⟨some 11, .mov (.tmp 1), none⟩,
         ⟨some 12, .mov (.tmp 0), none⟩,
         ⟨some 13, .mov (.tmp 5), none⟩,
         ⟨some 14, .iaddr 1 (.tmp 12) (.tmp 13), none⟩,
         ⟨some 15, .load none (.tmp 14), none⟩,
         ⟨some 16, .bin .eql 0 3 (.tmp 11) (.tmp 15), none⟩]) (
      .cond (.tmp 16) (.seq (.reg [⟨some 17, .mov (.tmp 5), none⟩,
          ⟨some 4, .mov (.tmp 17), none⟩]) (
       .ret)) (.skip))))) (
    .reg [⟨some 18, .bin .add 0 3 (.tmp 8) (.const (.int .i64 1)), none⟩,
      ⟨some 8, .mov (.tmp 18), none⟩])))))))) (
 .seq (.reg [⟨some 4, .mov (.const (.int .i64 (-1))), none⟩]) (
 .ret))),
  [.tmp 4]⟩
theorem m129 : mFn Try.prog 129 s129 = true := by kernel_rfl
def s130 : SFn := ⟨.seq (.reg [⟨some 2, .lbox (.tmp 0), none⟩,
    ⟨some 3, .lbox (.tmp 1), none⟩,
    ⟨some 4, .lalloc [.bool false, .slice none 0 0, .slice none 0 0], none⟩]) (
 .seq (.dreg [⟨some 5, .faddr 0 (.tmp 2), none⟩,
    ⟨some 6, .faddr 0 (.tmp 5), none⟩,
    ⟨some 7, .load none (.tmp 6), none⟩,
    ⟨some 8, .faddr 0 (.tmp 2), none⟩,
    ⟨some 9, .faddr 1 (.tmp 8), none⟩,
    ⟨some 10, .load none (.tmp 9), none⟩,
    ⟨some 11, .faddr 0 (.tmp 3), none⟩,
    ⟨some 12, .faddr 1 (.tmp 11), none⟩,
    ⟨some 13, .load none (.tmp 12), none⟩,
    ⟨some 14, .bimm 1 [.slice none 0 0] 2 [(0, .tmp 10), (1, .tmp 13)], none⟩,
    ⟨some 15, .call 137 [.tmp 14], none⟩,
    ⟨some 16, .faddr 0 (.tmp 2), none⟩,
    ⟨some 17, .faddr 2 (.tmp 16), none⟩,
    ⟨some 18, .load none (.tmp 17), none⟩,
    ⟨some 19, .faddr 0 (.tmp 3), none⟩,
    ⟨some 20, .faddr 2 (.tmp 19), none⟩,
    ⟨some 21, .load none (.tmp 20), none⟩,
    ⟨some 22, .bimm 1 [.slice none 0 0] 2 [(0, .tmp 18), (1, .tmp 21)], none⟩,
    ⟨some 23, .call 138 [.tmp 22], none⟩,
    ⟨some 24, .build [.bool false, .slice none 0 0, .slice none 0 0] [(0, 1, .tmp 7), (1, 1, .tmp 15), (2, 1, .tmp 23)], none⟩,
    ⟨some 25, .build [.bool false, .slice none 0 0, .slice none 0 0] [(0, 3, .tmp 24)], none⟩,
    ⟨none, .store (some 3) (.tmp 4) (.tmp 25), none⟩] [(2, 5), (2, 8), (5, 8), (2, 10), (2, 13), (5, 13), (8, 13), (10, 13), (2, 16), (5, 16), (8, 16), (10, 16), (13, 16), (2, 18)]) (
 .ret)),
  [.cell 4 (some 3)]⟩
theorem m130 : mFn Try.prog 130 s130 = true := by kernel_rfl
def s137 : SFn := ⟨.seq (.reg [⟨some 2, .mov (.const (.slice none 0 0)), none⟩]) (
 .seq (.reg [⟨some 3, .mov (.const (.int .i64 0)), none⟩]) (
 .seq (.seq (.reg [⟨some 9, .mov (.tmp 0), none⟩,
     ⟨some 10, .len (.tmp 9), none⟩,
     ⟨some 11, .mov (.const (.int .i64 0)), none⟩]) (
  .block 0 (.loop (.seq (.keep [0, 3, 9, 10, 11] []) (.seq (.reg [⟨some 12, .bin .lss 0 3 (.tmp 11) (.tmp 10), none⟩]) (
    .seq (.cond (.tmp 12) (.skip) (.exit 0)) (
    .seq (.block 1 (.seq (.reg [⟨some 13, .iaddr 1 (.tmp 9) (.tmp 11), none⟩,
         ⟨some 14, .load none (.tmp 13), none⟩,
         ⟨some 5, .mov (.tmp 14), none⟩]) (
      .seq (.reg [⟨some 15, .mov (.tmp 3), none⟩,
         ⟨some 16, .mov (.tmp 5), none⟩,
         ⟨some 17, .len (.tmp 16), none⟩,
         ⟨some 18, .bin .add 0 3 (.tmp 15) (.tmp 17), none⟩,
         ⟨some 3, .mov (.tmp 18), none⟩]) (
      .seq (.reg [⟨some 19, .mov (.tmp 3), none⟩,
         ⟨some 20, .bin .lss 0 3 (.tmp 19) (.const (.int .i64 0)), none⟩]) (
      .cond (.tmp 20) (.reg [⟨some 21, .mkif 9 (.const (.string ⟨#[108, 101, 110, 32, 111, 117, 116, 32, 111, 102, 32, 114, 97, 110, 103, 101]⟩)), none⟩,
         ⟨none, .bad, none⟩]) (.skip)))))) (
    .reg [⟨some 22, .bin .add 0 3 (.tmp 11) (.const (.int .i64 1)), none⟩,
      ⟨some 11, .mov (.tmp 22), none⟩])))))))) (
 .seq (.keep [0, 3] []) (.seq (.reg [⟨some 23, .mov (.tmp 3), none⟩,
    ⟨some 24, .call 142 [.const (.slice none 0 0), .tmp 23], none⟩,
    ⟨some 6, .mov (.tmp 24), none⟩]) (
 .seq (.seq (.reg [⟨some 25, .mov (.tmp 0), none⟩,
     ⟨some 26, .len (.tmp 25), none⟩,
     ⟨some 27, .mov (.const (.int .i64 0)), none⟩]) (
  .block 2 (.loop (.seq (.keep [6, 25, 26, 27] []) (.seq (.reg [⟨some 28, .bin .lss 0 3 (.tmp 27) (.tmp 26), none⟩]) (
    .seq (.cond (.tmp 28) (.skip) (.exit 2)) (
    .seq (.block 3 (.seq (.reg [⟨some 29, .iaddr 1 (.tmp 25) (.tmp 27), none⟩,
         ⟨some 30, .load none (.tmp 29), none⟩,
         ⟨some 8, .mov (.tmp 30), none⟩]) (
      .reg [⟨some 31, .mov (.tmp 6), none⟩,
        ⟨some 32, .mov (.tmp 8), none⟩,
        ⟨some 33, .app 2 40 false (.tmp 31) (.tmp 32), none⟩,
        ⟨some 6, .mov (.tmp 33), none⟩]))) (
    .reg [⟨some 34, .bin .add 0 3 (.tmp 27) (.const (.int .i64 1)), none⟩,
      ⟨some 27, .mov (.tmp 34), none⟩])))))))) (
 .seq (.reg [⟨some 35, .mov (.tmp 6), none⟩,
    ⟨some 2, .mov (.tmp 35), none⟩]) (
 .ret))))))),
  [.tmp 2]⟩
theorem m137 : mFn Try.prog 137 s137 = true := by kernel_rfl
def s138 : SFn := ⟨.seq (.reg [⟨some 2, .mov (.const (.slice none 0 0)), none⟩]) (
 .seq (.reg [⟨some 3, .mov (.const (.int .i64 0)), none⟩]) (
 .seq (.seq (.reg [⟨some 9, .mov (.tmp 0), none⟩,
     ⟨some 10, .len (.tmp 9), none⟩,
     ⟨some 11, .mov (.const (.int .i64 0)), none⟩]) (
  .block 0 (.loop (.seq (.keep [0, 3, 9, 10, 11] []) (.seq (.reg [⟨some 12, .bin .lss 0 3 (.tmp 11) (.tmp 10), none⟩]) (
    .seq (.cond (.tmp 12) (.skip) (.exit 0)) (
    .seq (.block 1 (.seq (.reg [⟨some 13, .iaddr 1 (.tmp 9) (.tmp 11), none⟩,
         ⟨some 14, .load none (.tmp 13), none⟩,
         ⟨some 5, .mov (.tmp 14), none⟩]) (
      .seq (.reg [⟨some 15, .mov (.tmp 3), none⟩,
         ⟨some 16, .mov (.tmp 5), none⟩,
         ⟨some 17, .len (.tmp 16), none⟩,
         ⟨some 18, .bin .add 0 3 (.tmp 15) (.tmp 17), none⟩,
         ⟨some 3, .mov (.tmp 18), none⟩]) (
      .seq (.reg [⟨some 19, .mov (.tmp 3), none⟩,
         ⟨some 20, .bin .lss 0 3 (.tmp 19) (.const (.int .i64 0)), none⟩]) (
      .cond (.tmp 20) (.reg [⟨some 21, .mkif 9 (.const (.string ⟨#[108, 101, 110, 32, 111, 117, 116, 32, 111, 102, 32, 114, 97, 110, 103, 101]⟩)), none⟩,
         ⟨none, .bad, none⟩]) (.skip)))))) (
    .reg [⟨some 22, .bin .add 0 3 (.tmp 11) (.const (.int .i64 1)), none⟩,
      ⟨some 11, .mov (.tmp 22), none⟩])))))))) (
 .seq (.keep [0, 3] []) (.seq (.reg [⟨some 23, .mov (.tmp 3), none⟩,
    ⟨some 24, .call 143 [.const (.slice none 0 0), .tmp 23], none⟩,
    ⟨some 6, .mov (.tmp 24), none⟩]) (
 .seq (.seq (.reg [⟨some 25, .mov (.tmp 0), none⟩,
     ⟨some 26, .len (.tmp 25), none⟩,
     ⟨some 27, .mov (.const (.int .i64 0)), none⟩]) (
  .block 2 (.loop (.seq (.keep [6, 25, 26, 27] []) (.seq (.reg [⟨some 28, .bin .lss 0 3 (.tmp 27) (.tmp 26), none⟩]) (
    .seq (.cond (.tmp 28) (.skip) (.exit 2)) (
    .seq (.block 3 (.seq (.reg [⟨some 29, .iaddr 1 (.tmp 25) (.tmp 27), none⟩,
         ⟨some 30, .load none (.tmp 29), none⟩,
         ⟨some 8, .mov (.tmp 30), none⟩]) (
      .reg [⟨some 31, .mov (.tmp 6), none⟩,
        ⟨some 32, .mov (.tmp 8), none⟩,
        ⟨some 33, .app 5 48 false (.tmp 31) (.tmp 32), none⟩,
        ⟨some 6, .mov (.tmp 33), none⟩]))) (
    .reg [⟨some 34, .bin .add 0 3 (.tmp 27) (.const (.int .i64 1)), none⟩,
      ⟨some 27, .mov (.tmp 34), none⟩])))))))) (
 .seq (.reg [⟨some 35, .mov (.tmp 6), none⟩,
    ⟨some 2, .mov (.tmp 35), none⟩]) (
 .ret))))))),
  [.tmp 2]⟩
theorem m138 : mFn Try.prog 138 s138 = true := by kernel_rfl
def s142 : SFn := ⟨.seq (.reg [⟨some 4, .mov (.const (.slice none 0 0)), none⟩]) (
 .seq (.seq (.reg [⟨some 5, .mov (.tmp 1), none⟩,
     ⟨some 6, .bin .lss 0 3 (.tmp 5) (.const (.int .i64 0)), none⟩]) (
  .cond (.tmp 6) (.reg [⟨some 7, .mkif 9 (.const (.string ⟨#[99, 97, 110, 110, 111, 116, 32, 98, 101, 32, 110, 101, 103, 97, 116, 105, 118, 101]⟩)), none⟩,
     ⟨none, .bad, none⟩]) (.skip))) (
 .seq (.seq (.reg [⟨some 8, .mov (.tmp 1), none⟩,
     ⟨some 9, .mov (.tmp 0), none⟩,
     ⟨some 10, .capx (.tmp 9), none⟩,
     ⟨some 11, .mov (.tmp 0), none⟩,
     ⟨some 12, .len (.tmp 11), none⟩,
     ⟨some 13, .bin .sub 0 3 (.tmp 10) (.tmp 12), none⟩,
     ⟨some 14, .bin .sub 0 3 (.tmp 8) (.tmp 13), none⟩,
     ⟨some 1, .mov (.tmp 14), none⟩]) (
  .seq (.reg [⟨some 15, .mov (.tmp 1), none⟩,
     ⟨some 16, .bin .gtr 0 3 (.tmp 15) (.const (.int .i64 0)), none⟩]) (
  .seq (.keep [0, 1, 16] []) (.cond (.tmp 16) (.reg [⟨some 17, .mov (.tmp 0), none⟩,
     ⟨some 18, .mov (.tmp 0), none⟩,
     ⟨some 19, .capx (.tmp 18), none⟩,
     ⟨some 20, .slc 2 (.tmp 17) none (some (.tmp 19)) none, none⟩,
     ⟨some 21, .mov (.tmp 1), none⟩,
     ⟨some 22, .appz 2 40 [.string ⟨#[]⟩, .slice none 0 0] (.tmp 20) (.tmp 21), none⟩,
     ⟨some 23, .mov (.tmp 0), none⟩,
     ⟨some 24, .len (.tmp 23), none⟩,
     ⟨some 25, .trunc 2 (.tmp 22) (.tmp 24), none⟩,
     ⟨some 0, .mov (.tmp 25), none⟩]) (.skip))))) (
 .seq (.reg [⟨some 26, .mov (.tmp 0), none⟩,
    ⟨some 4, .mov (.tmp 26), none⟩]) (
 .ret)))),
  [.tmp 4]⟩
theorem m142 : mFn Try.prog 142 s142 = true := by kernel_rfl
def s143 : SFn := ⟨.seq (.reg [⟨some 4, .mov (.const (.slice none 0 0)), none⟩]) (
 .seq (.seq (.reg [⟨some 5, .mov (.tmp 1), none⟩,
     ⟨some 6, .bin .lss 0 3 (.tmp 5) (.const (.int .i64 0)), none⟩]) (
  .cond (.tmp 6) (.reg [⟨some 7, .mkif 9 (.const (.string ⟨#[99, 97, 110, 110, 111, 116, 32, 98, 101, 32, 110, 101, 103, 97, 116, 105, 118, 101]⟩)), none⟩,
     ⟨none, .bad, none⟩]) (.skip))) (
 .seq (.seq (.reg [⟨some 8, .mov (.tmp 1), none⟩,
     ⟨some 9, .mov (.tmp 0), none⟩,
     ⟨some 10, .capx (.tmp 9), none⟩,
     ⟨some 11, .mov (.tmp 0), none⟩,
     ⟨some 12, .len (.tmp 11), none⟩,
     ⟨some 13, .bin .sub 0 3 (.tmp 10) (.tmp 12), none⟩,
     ⟨some 14, .bin .sub 0 3 (.tmp 8) (.tmp 13), none⟩,
     ⟨some 1, .mov (.tmp 14), none⟩]) (
  .seq (.reg [⟨some 15, .mov (.tmp 1), none⟩,
     ⟨some 16, .bin .gtr 0 3 (.tmp 15) (.const (.int .i64 0)), none⟩]) (
  .seq (.keep [0, 1, 16] []) (.cond (.tmp 16) (.reg [⟨some 17, .mov (.tmp 0), none⟩,
     ⟨some 18, .mov (.tmp 0), none⟩,
     ⟨some 19, .capx (.tmp 18), none⟩,
     ⟨some 20, .slc 5 (.tmp 17) none (some (.tmp 19)) none, none⟩,
     ⟨some 21, .mov (.tmp 1), none⟩,
     ⟨some 22, .appz 5 48 [.string ⟨#[]⟩, .int .u64 0, .int .i64 0, .int .i64 0, .int .i64 0] (.tmp 20) (.tmp 21), none⟩,
     ⟨some 23, .mov (.tmp 0), none⟩,
     ⟨some 24, .len (.tmp 23), none⟩,
     ⟨some 25, .trunc 5 (.tmp 22) (.tmp 24), none⟩,
     ⟨some 0, .mov (.tmp 25), none⟩]) (.skip))))) (
 .seq (.reg [⟨some 26, .mov (.tmp 0), none⟩,
    ⟨some 4, .mov (.tmp 26), none⟩]) (
 .ret)))),
  [.tmp 4]⟩
theorem m143 : mFn Try.prog 143 s143 = true := by kernel_rfl
def s160 : SFn := ⟨.seq (.reg [⟨some 3, .lbox (.tmp 1), none⟩,
    ⟨some 4, .lalloc [.int .u64 0, .int .i64 0, .int .i64 0, .int .i64 0], none⟩,
    ⟨some 5, .mov (.const (.int .i64 0)), none⟩]) (
 .seq (.seq (.reg [⟨some 6, .mov (.tmp 0), none⟩,
     ⟨some 7, .nilchk (.tmp 6), none⟩,
     ⟨some 8, .faddr 0 (.tmp 7), none⟩,
     ⟨some 9, .load none (.tmp 8), none⟩,
     ⟨some 10, .len (.tmp 9), none⟩,
     ⟨some 11, .bin .geq 0 3 (.tmp 10) (.const (.int .i64 20000)), none⟩]) (
  .cond (.tmp 11) (.seq (.reg [⟨some 12, .build [.int .u64 0, .int .i64 0, .int .i64 0, .int .i64 0] [], none⟩,
      ⟨none, .store (some 4) (.tmp 4) (.tmp 12), none⟩,
      ⟨some 5, .mov (.const (.int .i64 2)), none⟩]) (
   .ret)) (.skip))) (
 .seq (.dreg [⟨some 13, .mov (.tmp 0), none⟩,
    ⟨some 14, .mov (.tmp 0), none⟩,
    ⟨some 15, .nilchk (.tmp 14), none⟩,
    ⟨some 16, .faddr 0 (.tmp 15), none⟩,
    ⟨some 17, .load none (.tmp 16), none⟩,
    ⟨some 18, .load (some 3) (.tmp 3), none⟩,
    ⟨some 19, .call 99 [.tmp 18], none⟩,
    ⟨some 20, .bimm 3 [.bool false, .slice none 0 0, .slice none 0 0] 1 [(0, .tmp 19)], none⟩,
    ⟨some 21, .app 3 56 false (.tmp 17) (.tmp 20), none⟩,
    ⟨some 22, .nilchk (.tmp 13), none⟩,
    ⟨some 23, .faddr 0 (.tmp 22), none⟩,
    ⟨none, .store none (.tmp 23) (.tmp 21), none⟩] [(4, 5), (4, 6)]) (
 .seq (.keep [0, 4] [4]) (.seq (.reg [⟨some 24, .mov (.tmp 0), none⟩,
    ⟨some 25, .nilchk (.tmp 24), none⟩,
    ⟨some 26, .faddr 0 (.tmp 25), none⟩,
    ⟨some 27, .load none (.tmp 26), none⟩,
    ⟨some 28, .len (.tmp 27), none⟩,
    ⟨some 29, .bin .sub 0 3 (.tmp 28) (.const (.int .i64 1)), none⟩,
    ⟨some 30, .call 120 [.tmp 29], none⟩,
    ⟨none, .store (some 4) (.tmp 4) (.tmp 30), none⟩,
    ⟨some 5, .mov (.const (.int .i64 0)), none⟩]) (
 .ret))))),
  [.cell 4 (some 4), .tmp 5]⟩
theorem m160 : mFn Try.prog 160 s160 = true := by kernel_rfl
end Go.Proofs.Ytbldkkabkijpgaa

namespace Go.Proofs.Ytbldkkabkijpgaa
open Go.Am
theorem okc {a : Nat} {b : SFn} {l : List (Nat × SFn)} (h : mFn Try.prog a b = true) (t : ∀ p ∈ l, mFn Try.prog p.1 p.2 = true) : ∀ p ∈ (a, b) :: l, mFn Try.prog p.1 p.2 = true := by
  intro p hp
  rcases List.mem_cons.1 hp with rfl | hp
  · exact h
  · exact t p hp
theorem okl {l : List (Nat × SFn)} {g : Nat} {sf : SFn} (h : l.lookup g = some sf) (t : ∀ p ∈ l, mFn Try.prog p.1 p.2 = true) : mFn Try.prog g sf = true := by
  induction l with
  | nil => simp at h
  | cons p l ih =>
    simp only [List.lookup] at h
    split at h
    · rename_i e
      have e' : g = p.1 := by simpa using e
      have h := Option.some.inj h
      subst h
      exact Eq.subst (motive := fun z => mFn Try.prog z p.2 = true) e'.symm (t p (List.mem_cons_self ..))
    · exact ih h fun q hq => t q (List.mem_cons_of_mem _ hq)
def tbl0 : List (Nat × SFn) := [(8, s8), (11, s11), (13, s13), (14, s14), (15, s15), (16, s16), (17, s17), (18, s18), (19, s19), (20, s20), (21, s21), (22, s22), (31, s31), (36, s36), (37, s37), (38, s38), (39, s39), (45, s45), (48, s48), (55, s55), (56, s56), (57, s57), (58, s58), (59, s59)]
theorem ok0 : ∀ p ∈ tbl0, mFn Try.prog p.1 p.2 = true := okc m8 <| okc m11 <| okc m13 <| okc m14 <| okc m15 <| okc m16 <| okc m17 <| okc m18 <| okc m19 <| okc m20 <| okc m21 <| okc m22 <| okc m31 <| okc m36 <| okc m37 <| okc m38 <| okc m39 <| okc m45 <| okc m48 <| okc m55 <| okc m56 <| okc m57 <| okc m58 <| okc m59 <| fun p hp => by simp at hp
def tbl1 : List (Nat × SFn) := [(64, s64), (71, s71), (72, s72), (83, s83), (84, s84), (85, s85), (93, s93), (94, s94), (95, s95), (96, s96), (97, s97), (98, s98), (99, s99), (100, s100), (105, s105), (106, s106), (114, s114), (115, s115), (120, s120), (127, s127), (128, s128), (129, s129), (130, s130), (137, s137)]
theorem ok1 : ∀ p ∈ tbl1, mFn Try.prog p.1 p.2 = true := okc m64 <| okc m71 <| okc m72 <| okc m83 <| okc m84 <| okc m85 <| okc m93 <| okc m94 <| okc m95 <| okc m96 <| okc m97 <| okc m98 <| okc m99 <| okc m100 <| okc m105 <| okc m106 <| okc m114 <| okc m115 <| okc m120 <| okc m127 <| okc m128 <| okc m129 <| okc m130 <| okc m137 <| fun p hp => by simp at hp
def tbl2 : List (Nat × SFn) := [(138, s138), (142, s142), (143, s143), (160, s160)]
theorem ok2 : ∀ p ∈ tbl2, mFn Try.prog p.1 p.2 = true := okc m138 <| okc m142 <| okc m143 <| okc m160 <| fun p hp => by simp at hp
def tbl (n : Nat) : Option SFn := tbl0.lookup n <|> tbl1.lookup n <|> tbl2.lookup n
theorem or_some {α : Type} {a b : Option α} {x : α} (h : (a <|> b) = some x) : a = some x ∨ b = some x := by
  cases a with
  | none => exact .inr h
  | some y => exact .inl h
theorem tbl_ok : ∀ g sf, tbl g = some sf → mFn Try.prog g sf = true := by
  intro g sf h
  unfold tbl at h
  rcases or_some h with h | h
  · exact okl h ok0
  rcases or_some h with h | h
  · exact okl h ok1
  exact okl h ok2
end Go.Proofs.Ytbldkkabkijpgaa

namespace Go.Am

structure Ver where
  no : Int
  value : ByteArray
  note : ByteArray
  deriving DecidableEq

structure Ent where
  name : ByteArray
  vs : List Ver
  deriving DecidableEq

structure RefT where
  key : Int
  seg : Int
  off : Int
  len : Int
  deriving DecidableEq

structure KidT where
  low : ByteArray
  ref : RefT
  deriving DecidableEq

structure NodeT where
  leaf : Bool
  es : List Ent
  ks : List KidT
  deriving DecidableEq

structure OpT where
  d : Int
  name : ByteArray
  value : ByteArray
  segs : List Int
  back : Int

def RefT.cells (r : RefT) : List Value := [.int .u64 r.key, .int .i64 r.seg, .int .i64 r.off, .int .i64 r.len]

def verK : Kd Ver := .flat 3 40 (by decide) (fun v => [.int .i64 v.no, .string v.value, .string v.note]) fun _ => ⟨rfl, rfl⟩
def refK : Kd RefT := .flat 4 32 (by decide) RefT.cells fun _ => ⟨rfl, rfl⟩
def kidK : Kd KidT := .flat 5 48 (by decide) (fun k => .string k.low :: k.ref.cells) fun _ => ⟨rfl, rfl⟩

def entK : Kd Ent where
  n := 2
  bs := 40
  pos := by decide
  rel D σ cs x := ∃ v, cs = [.string x.name, v] ∧ SlR verK D σ v x.vs
  len := by rintro _ _ _ _ ⟨v, rfl, _⟩; rfl
  one := by
    rintro _ _ _ _ ⟨v, rfl, h⟩
    obtain ⟨_, _, rfl⟩ := h.shape
    rfl
  step := by rintro _ _ _ _ _ _ ⟨v, rfl, h⟩ hm; exact ⟨v, rfl, h.step hm⟩

def nodeK : Kd NodeT where
  n := 3
  bs := 56
  pos := by decide
  rel D σ cs x := ∃ v u, cs = [.bool x.leaf, v, u] ∧ SlR entK D σ v x.es ∧ SlR kidK D σ u x.ks
  len := by rintro _ _ _ _ ⟨v, u, rfl, _⟩; rfl
  one := by
    rintro _ _ _ _ ⟨v, u, rfl, h, k⟩
    obtain ⟨_, _, rfl⟩ := h.shape
    obtain ⟨_, _, rfl⟩ := k.shape
    rfl
  step := by rintro _ _ _ _ _ _ ⟨v, u, rfl, h, k⟩ hm; exact ⟨v, u, rfl, h.step hm, k.step hm⟩

structure SeenT where
  deep : Int
  ref : RefT
  node : NodeT

def seenK : Kd SeenT where
  n := 8
  bs := 96
  pos := by decide
  rel D σ cs x := ∃ v u, cs = [.int .i64 x.deep, .int .u64 x.ref.key, .int .i64 x.ref.seg, .int .i64 x.ref.off, .int .i64 x.ref.len, .bool x.node.leaf, v, u] ∧ SlR entK D σ v x.node.es ∧ SlR kidK D σ u x.node.ks
  len := by rintro _ _ _ _ ⟨v, u, rfl, _⟩; rfl
  one := by
    rintro _ _ _ _ ⟨v, u, rfl, h, k⟩
    obtain ⟨_, _, rfl⟩ := h.shape
    obtain ⟨_, _, rfl⟩ := k.shape
    rfl
  step := by rintro _ _ _ _ _ _ ⟨v, u, rfl, h, k⟩ hm; exact ⟨v, u, rfl, h.step hm, k.step hm⟩

/-- A node whose lists are one's own. -/
structure NodeO (D N1 N2 : List Nat) (σ : AHeap) (ve vk : Value) (x : NodeT) : Prop where
  es : Own entK (N2 ++ D) σ N1 ve x.es
  ks : Own kidK (N1 ++ D) σ N2 vk x.ks

theorem NodeO.rel {D N1 N2 σ ve vk x} (h : NodeO D N1 N2 σ ve vk x) : nodeK.rel D σ [.bool x.leaf, ve, vk] x :=
  ⟨ve, vk, rfl, h.es.sl.step ⟨Nat.le_refl _, fun _ _ _ => rfl, fun _ _ hd => by simp [hd]⟩, h.ks.sl.step ⟨Nat.le_refl _, fun _ _ _ => rfl, fun _ _ hd => by simp [hd]⟩⟩

theorem NodeO.step {D σ D' σ' N1 N2 ve vk x} (h : NodeO D N1 N2 σ ve vk x) (hm : Mv D σ D' σ') : NodeO D' N1 N2 σ' ve vk x := ⟨h.es.step (hm.pre N2), h.ks.step (hm.pre N1)⟩

/-- The place of a page in memory. -/
def refN (n : Nat) : RefT := ⟨(n + 1 : Nat), (n / 4 : Nat), (n % 4 : Nat), 1⟩

/-- A page in memory. -/
def rd (H : List NodeT) (r : RefT) : Option NodeT := if 1 ≤ r.key ∧ r.key ≤ H.length ∧ refN (r.key - 1).toNat = r then H[(r.key - 1).toNat]? else none

/-- The least name of a node. -/
def lowP (x : NodeT) : ByteArray :=
  match x.leaf, x.es, x.ks with
  | true, e :: _, _ => e.name
  | false, _, k :: _ => k.low
  | _, _, _ => ⟨#[]⟩

def sizeP (x : NodeT) : Nat := if x.leaf then x.es.length else x.ks.length

/-- A row of pages in memory: D0: what else may change; N: the row's own block. -/
structure HeapIs (D0 N : List Nat) (σ : AHeap) (hb : Nat) (H : List NodeT) : Prop where
  cell : ∃ v, σ[hb]? = some (.row [v] 0 .W) ∧ Own nodeK (hb :: D0) σ N v H
  out : hb ∉ D0

theorem HeapIs.lt {D0 N σ hb H} (h : HeapIs D0 N σ hb H) : hb < σ.size := lt_of_get h.cell.choose_spec.1

theorem HeapIs.step {D0 N σ hb H D0' σ'} (h : HeapIs D0 N σ hb H) (hm : Mv D0 σ D0' σ') : HeapIs D0' N σ' hb H := by
  have hlt := h.lt
  obtain ⟨⟨v, h1, h2⟩, h3⟩ := h
  exact ⟨⟨v, (hm.keep hb hlt h3).trans h1, h2.step (hm.pre [hb])⟩, fun hd => h3 (hm.old hb hlt hd)⟩

def opK : Kd OpT where
  n := 5
  bs := 72
  pos := by decide
  rel D σ cs x := ∃ v, cs = [.int .i64 x.d, .string x.name, .string x.value, v, .int .i64 x.back] ∧ SlR intK D σ v x.segs
  len := by rintro _ _ _ _ ⟨v, rfl, _⟩; rfl
  one := by
    rintro _ _ _ _ ⟨v, rfl, h⟩
    obtain ⟨_, _, rfl⟩ := h.shape
    rfl
  step := by rintro _ _ _ _ _ _ ⟨v, rfl, h⟩ hm; exact ⟨v, rfl, h.step hm⟩

end Go.Am

namespace Go.Proofs.Ytbldkkabkijpgaa
open Go.Am

structure Prg (A : AProg) : Prop where
  fn : A.fn = tbl
  /-- what is shown of a run of the program may be used as a step. -/
  ok : ∃ B, ProgOk Try.prog B A ∧ ∀ g args σ r σ', Snd Try.prog B g args σ r σ' → A.prim g args σ r σ'
  eqR : ∀ r s : RefT, A.eqv 28 (.agg r.cells.toArray) (.agg s.cells.toArray) (decide (r = s))
  eqV : ∀ a b : Ver, A.eqv 128 (.agg #[.int .i64 a.no, .string a.value, .string a.note]) (.agg #[.int .i64 b.no, .string b.value, .string b.note]) (decide (a = b))
  eqK : ∀ a b : KidT, A.eqv 55 (.agg #[.string a.low, .int .u64 a.ref.key, .int .i64 a.ref.seg, .int .i64 a.ref.off, .int .i64 a.ref.len])
    (.agg #[.string b.low, .int .u64 b.ref.key, .int .i64 b.ref.seg, .int .i64 b.ref.off, .int .i64 b.ref.len]) (decide (a = b))

theorem Prg.at {A : AProg} (h : Prg A) {g : Nat} {sf : SFn} (e : tbl g = some sf) : A.fn g = some sf := by rw [h.fn]; exact e

theorem Be_ref {A : AProg} (hA : Prg A) (r s : RefT) {op d l acc ps k R f σ} (ho : op = .eql ∨ op = .neq) (h : So A l (.p :: acc) ps k R (f.put d (.v (.bool (if op = .eql then decide (r = s) else !decide (r = s))))) σ) :
    Be A op 28 (.agg #[.int .u64 r.key, .int .i64 r.seg, .int .i64 r.off, .int .i64 r.len]) (.agg #[.int .u64 s.key, .int .i64 s.seg, .int .i64 s.off, .int .i64 s.len]) d l acc ps k R f σ :=
  ⟨ho, _, hA.eqR r s, h⟩

theorem Be_ver {A : AProg} (hA : Prg A) (a b : Ver) {op d l acc ps k R f σ} (ho : op = .eql ∨ op = .neq) (h : So A l (.p :: acc) ps k R (f.put d (.v (.bool (if op = .eql then decide (a = b) else !decide (a = b))))) σ) :
    Be A op 128 (.agg #[.int .i64 a.no, .string a.value, .string a.note]) (.agg #[.int .i64 b.no, .string b.value, .string b.note]) d l acc ps k R f σ :=
  ⟨ho, _, hA.eqV a b, h⟩

theorem Be_kid {A : AProg} (hA : Prg A) (a b : KidT) {op d l acc ps k R f σ} (ho : op = .eql ∨ op = .neq) (h : So A l (.p :: acc) ps k R (f.put d (.v (.bool (if op = .eql then decide (a = b) else !decide (a = b))))) σ) :
    Be A op 55 (.agg #[.string a.low, .int .u64 a.ref.key, .int .i64 a.ref.seg, .int .i64 a.ref.off, .int .i64 a.ref.len]) (.agg #[.string b.low, .int .u64 b.ref.key, .int .i64 b.ref.seg, .int .i64 b.ref.off, .int .i64 b.ref.len]) d l acc ps k R f σ :=
  ⟨ho, _, hA.eqK a b, h⟩

set_option linter.unusedSimpArgs false
section
variable {A : AProg} (hA : Prg A)
include hA

theorem c38 {D σ v} {l : List OpT} {name : ByteArray} (h : SlR opK D σ v l) {R : Value → AHeap → Prop} (hD : ∀ b ∈ D, b < σ.size) (hb : l.length ≤ 1000)
    (hR : ∀ v' N σ', Own opK D σ' N v' (l.filter fun o => decide (o.name ≠ name)) → Mv [] σ N σ' → R v' σ') : C A 38 [v, .string name] σ R := by
  refine C_fn s38 (hA.at rfl) ?_
  obtain ⟨base, c, rfl⟩ := h.shape
  simp only [s38, sx, argsFr, Sq, SI.wanted, AFr.ev, AFr.evV, AFr.get, AFr.box, AFr.put, AFr.setb, AV.val, callee, evArgs, aBin, aUn, oneCell, cellsOf, Value.cells, evParts, evElems, evAll, fillP, zeros, RetK, resAll, resOf, tupleOf, bnd, intOf?, AFr.keep, RefT.cells, undef, Nat.reduceBEq, Nat.reduceAdd, Nat.reduceMul, Nat.reduceLeDiff, Nat.reduceEqDiff, reduceCtorEq, Int.reduceEq, Int.reduceLT, Int.reduceLE, Int.reduceAdd, Int.reduceSub]
  refine Lp_ind (fun i => l.length - i) (fun i f σ' => ∃ v N, f.keep [1, 5, 8, 9, 10] [] = some ⟨[(1, .v (.string name)), (5, .v v), (8, .v (.slice base l.length c)), (9, .v (.int .i64 l.length)), (10, .v (.int .i64 i))], []⟩ ∧
    i ≤ l.length ∧ Own opK D σ' N v ((l.take i).filter fun o => decide (o.name ≠ name)) ∧ Mv [] σ N σ') ?_ 0 _ _ ⟨_, [], rfl, Nat.zero_le _, .nil, Mv.refl _ _⟩
  rintro i f σ1 ⟨v, N, hk, hi, ho, hm⟩ ih
  rw [St_seq, St_keep hk]
  simp only [sx, argsFr, Sq, SI.wanted, AFr.ev, AFr.evV, AFr.get, AFr.box, AFr.put, AFr.setb, AV.val, callee, evArgs, aBin, aUn, oneCell, cellsOf, Value.cells, evParts, evElems, evAll, fillP, zeros, RetK, resAll, resOf, tupleOf, bnd, intOf?, AFr.keep, RefT.cells, undef, Nat.reduceBEq, Nat.reduceAdd, Nat.reduceMul, Nat.reduceLeDiff, Nat.reduceEqDiff, reduceCtorEq, Int.reduceEq, Int.reduceLT, Int.reduceLE, Int.reduceAdd, Int.reduceSub]
  refine Cd_split (fun ht => ?_) (fun ht => ?_)
  · have hi' : i < l.length := by simpa using ht
    have hmx := h.bound
    obtain ⟨b, off, cs, e, m, cells, rfl, hb, hcut, x, hx, hxs⟩ := (h.step (hm.mono (E := D) (E' := N ++ D) (by simp) (by simp))).atN (j := 5) rfl (List.getElem?_eq_getElem hi')
    subst hx
    obtain ⟨base', c', rfl⟩ := hxs.shape
    simp only [sx, argsFr, Sq, SI.wanted, AFr.ev, AFr.evV, AFr.get, AFr.box, AFr.put, AFr.setb, AV.val, callee, evArgs, aBin, aUn, oneCell, cellsOf, Value.cells, evParts, evElems, evAll, fillP, zeros, RetK, resAll, resOf, tupleOf, bnd, intOf?, AFr.keep, RefT.cells, undef, Nat.reduceBEq, Nat.reduceAdd, Nat.reduceMul, Nat.reduceLeDiff, Nat.reduceEqDiff, reduceCtorEq, Int.reduceEq, Int.reduceLT, Int.reduceLE, Int.reduceAdd, Int.reduceSub, hb, hi', hcut]
    clear hk
    refine Cd_split (fun ht2 => ?_) (fun ht2 => ?_)
    · simp only [sx, argsFr, Sq, SI.wanted, AFr.ev, AFr.evV, AFr.get, AFr.box, AFr.put, AFr.setb, AV.val, callee, evArgs, aBin, aUn, oneCell, cellsOf, Value.cells, evParts, evElems, evAll, fillP, zeros, RetK, resAll, resOf, tupleOf, bnd, intOf?, AFr.keep, RefT.cells, undef, Nat.reduceBEq, Nat.reduceAdd, Nat.reduceMul, Nat.reduceLeDiff, Nat.reduceEqDiff, reduceCtorEq, Int.reduceEq, Int.reduceLT, Int.reduceLE, Int.reduceAdd, Int.reduceSub]
      have hfl : ((l.take i).filter fun o => decide (o.name ≠ name)).length ≤ i := Nat.le_trans (List.length_filter_le _ _) (by simp; omega)
      have hne : l[i].name ≠ name := by simpa using ht2
      refine Sr_app (K := opK) (D := D) (N := N) (ys := [l[i]]) (new := [.int .i64 l[i].d, .string l[i].name, .string l[i].value, .slice base' l[i].segs.length c', .int .i64 l[i].back])
        (by simp only [sx, argsFr, Sq, SI.wanted, AFr.ev, AFr.evV, AFr.get, AFr.box, AFr.put, AFr.setb, AV.val, callee, evArgs, aBin, aUn, oneCell, cellsOf, Value.cells, evParts, evElems, evAll, fillP, zeros, RetK, resAll, resOf, tupleOf, bnd, intOf?, AFr.keep, RefT.cells, undef, Nat.reduceBEq, Nat.reduceAdd, Nat.reduceMul, Nat.reduceLeDiff, Nat.reduceEqDiff, reduceCtorEq, Int.reduceEq, Int.reduceLT, Int.reduceLE, Int.reduceAdd, Int.reduceSub]) (ho.step (Mv.push D σ1 _)) rfl (by decide) (by simp [srcOf, AFr.ev, AFr.get, AFr.put, List.lookup]) rfl (Kd.list_one ⟨_, rfl, hxs.step (Mv.push _ σ1 _)⟩)
        rfl (by unfold maxN; simp only [List.length_singleton]; omega) (fun v' N' σ' ho' hm' => ?_) (fun b hb => by have := hD b hb; have := hm.size; simp; omega)
      simp only [sx, argsFr, Sq, SI.wanted, AFr.ev, AFr.evV, AFr.get, AFr.box, AFr.put, AFr.setb, AV.val, callee, evArgs, aBin, aUn, oneCell, cellsOf, Value.cells, evParts, evElems, evAll, fillP, zeros, RetK, resAll, resOf, tupleOf, bnd, intOf?, AFr.keep, RefT.cells, undef, Nat.reduceBEq, Nat.reduceAdd, Nat.reduceMul, Nat.reduceLeDiff, Nat.reduceEqDiff, reduceCtorEq, Int.reduceEq, Int.reduceLT, Int.reduceLE, Int.reduceAdd, Int.reduceSub]
      refine ih (i + 1) _ _ (by omega) ⟨v', N', ?_, by omega, ?_, ?_⟩
      · simp only [sx, argsFr, Sq, SI.wanted, AFr.ev, AFr.evV, AFr.get, AFr.box, AFr.put, AFr.setb, AV.val, callee, evArgs, aBin, aUn, oneCell, cellsOf, Value.cells, evParts, evElems, evAll, fillP, zeros, RetK, resAll, resOf, tupleOf, bnd, intOf?, AFr.keep, RefT.cells, undef, Nat.reduceBEq, Nat.reduceAdd, Nat.reduceMul, Nat.reduceLeDiff, Nat.reduceEqDiff, reduceCtorEq, Int.reduceEq, Int.reduceLT, Int.reduceLE, Int.reduceAdd, Int.reduceSub, wrap_up (show i ≤ 1000000000000000 by unfold maxN at *; omega)]
      · rw [List.take_succ_eq_append_getElem hi', List.filter_append]
        simpa [hne] using ho'
      · exact hm.trans ((Mv.push N σ1 _).trans hm')
    · have hne : l[i].name = name := by simpa using ht2
      simp only [sx, argsFr, Sq, SI.wanted, AFr.ev, AFr.evV, AFr.get, AFr.box, AFr.put, AFr.setb, AV.val, callee, evArgs, aBin, aUn, oneCell, cellsOf, Value.cells, evParts, evElems, evAll, fillP, zeros, RetK, resAll, resOf, tupleOf, bnd, intOf?, AFr.keep, RefT.cells, undef, Nat.reduceBEq, Nat.reduceAdd, Nat.reduceMul, Nat.reduceLeDiff, Nat.reduceEqDiff, reduceCtorEq, Int.reduceEq, Int.reduceLT, Int.reduceLE, Int.reduceAdd, Int.reduceSub]
      refine ih (i + 1) _ _ (by omega) ⟨v, N, ?_, by omega, ?_, hm⟩
      · simp only [sx, argsFr, Sq, SI.wanted, AFr.ev, AFr.evV, AFr.get, AFr.box, AFr.put, AFr.setb, AV.val, callee, evArgs, aBin, aUn, oneCell, cellsOf, Value.cells, evParts, evElems, evAll, fillP, zeros, RetK, resAll, resOf, tupleOf, bnd, intOf?, AFr.keep, RefT.cells, undef, Nat.reduceBEq, Nat.reduceAdd, Nat.reduceMul, Nat.reduceLeDiff, Nat.reduceEqDiff, reduceCtorEq, Int.reduceEq, Int.reduceLT, Int.reduceLE, Int.reduceAdd, Int.reduceSub, wrap_up (show i ≤ 1000000000000000 by unfold maxN at *; omega)]
      · rw [List.take_succ_eq_append_getElem hi', List.filter_append]
        simpa [hne] using ho
  · simp only [sx, argsFr, Sq, SI.wanted, AFr.ev, AFr.evV, AFr.get, AFr.box, AFr.put, AFr.setb, AV.val, callee, evArgs, aBin, aUn, oneCell, cellsOf, Value.cells, evParts, evElems, evAll, fillP, zeros, RetK, resAll, resOf, tupleOf, bnd, intOf?, AFr.keep, RefT.cells, undef, Nat.reduceBEq, Nat.reduceAdd, Nat.reduceMul, Nat.reduceLeDiff, Nat.reduceEqDiff, reduceCtorEq, Int.reduceEq, Int.reduceLT, Int.reduceLE, Int.reduceAdd, Int.reduceSub]
    clear ih hk
    have : i = l.length := by simp at ht; omega
    subst this
    exact hR v N σ1 (by simpa using ho) hm
end
end Go.Proofs.Ytbldkkabkijpgaa

namespace Go.Proofs.Ytbldkkabkijpgaa
open Go.Am

theorem list_eq_drop {α : Type} {xs ys : List α} {i : Nat} (hi : i < xs.length) (hj : i < ys.length) (h : xs[i] = ys[i]) : (xs.drop i = ys.drop i ↔ xs.drop (i + 1) = ys.drop (i + 1)) := by
  have e1 := List.drop_eq_getElem_cons hi
  have e2 := List.drop_eq_getElem_cons hj
  rw [e1, e2, h]
  exact ⟨fun e => (List.cons.inj e).2, fun e => by rw [e]⟩

set_option linter.unusedSimpArgs false
section
variable {A : AProg} (hA : Prg A)
include hA

theorem c64 {D D' σ v w} {xs ys : List Ver} (hx : SlR verK D σ v xs) (hy : SlR verK D' σ w ys) {R : Value → AHeap → Prop} (hR : R (.bool (decide (xs = ys))) σ) : C A 64 [v, w] σ R := by
  refine C_fn s64 (hA.at rfl) ?_
  obtain ⟨b1, c1, rfl⟩ := hx.shape
  obtain ⟨b2, c2, rfl⟩ := hy.shape
  have hmx := hx.bound
  unfold maxN at hmx
  by_cases hl : xs.length = ys.length
  rotate_left
  · have : ¬ ((xs.length : Int) = (ys.length : Int)) := by omega
    have hne : decide (xs = ys) = false := by simpa using fun e => hl (by rw [e])
    rw [hne] at hR
    simp only [s64, sx, argsFr, Sq, SI.wanted, AFr.ev, AFr.evV, AFr.get, AFr.box, AFr.put, AFr.setb, AV.val, callee, evArgs, aBin, aUn, oneCell, cellsOf, Value.cells, evParts, evElems, evAll, fillP, zeros, RetK, resAll, resOf, tupleOf, bnd, intOf?, AFr.keep, RefT.cells, undef, Nat.reduceBEq, Nat.reduceAdd, Nat.reduceMul, Nat.reduceLeDiff, Nat.reduceEqDiff, reduceCtorEq, Int.reduceEq, Int.reduceLT, Int.reduceLE, Int.reduceAdd, Int.reduceSub, this]
    exact hR
  · have hl' : ((xs.length : Int) = (ys.length : Int)) := by omega
    simp only [s64, sx, argsFr, Sq, SI.wanted, AFr.ev, AFr.evV, AFr.get, AFr.box, AFr.put, AFr.setb, AV.val, callee, evArgs, aBin, aUn, oneCell, cellsOf, Value.cells, evParts, evElems, evAll, fillP, zeros, RetK, resAll, resOf, tupleOf, bnd, intOf?, AFr.keep, RefT.cells, undef, Nat.reduceBEq, Nat.reduceAdd, Nat.reduceMul, Nat.reduceLeDiff, Nat.reduceEqDiff, reduceCtorEq, Int.reduceEq, Int.reduceLT, Int.reduceLE, Int.reduceAdd, Int.reduceSub, hl']
    refine Lp_ind (fun i => xs.length - i) (fun i f σ1 => σ1 = σ ∧ f.keep [0, 1, 12, 13] [] = some ⟨[(0, .v (.slice b1 xs.length c1)), (1, .v (.slice b2 ys.length c2)), (12, .v (.int .i64 xs.length)), (13, .v (.int .i64 i))], []⟩ ∧
      i ≤ xs.length ∧ (xs = ys ↔ xs.drop i = ys.drop i)) ?_ 0 _ _ ⟨rfl, by rw [hl]; rfl, Nat.zero_le _, Iff.rfl⟩
    rintro i f σ1 ⟨rfl, hkp, hi, hb⟩ ih
    rw [St_seq, St_keep hkp]
    simp only [sx, argsFr, Sq, SI.wanted, AFr.ev, AFr.evV, AFr.get, AFr.box, AFr.put, AFr.setb, AV.val, callee, evArgs, aBin, aUn, oneCell, cellsOf, Value.cells, evParts, evElems, evAll, fillP, zeros, RetK, resAll, resOf, tupleOf, bnd, intOf?, AFr.keep, RefT.cells, undef, Nat.reduceBEq, Nat.reduceAdd, Nat.reduceMul, Nat.reduceLeDiff, Nat.reduceEqDiff, reduceCtorEq, Int.reduceEq, Int.reduceLT, Int.reduceLE, Int.reduceAdd, Int.reduceSub]
    refine Cd_split (fun ht => ?_) (fun ht => ?_)
    · have hi' : i < xs.length := by simpa using ht
      have hj' : i < ys.length := by omega
      obtain ⟨p1, o1, cs1, e1, m1, cells1, rfl, hb1, hcut1, rfl⟩ := hx.atN (j := 3) rfl (List.getElem?_eq_getElem hi')
      obtain ⟨p2, o2, cs2, e2, m2, cells2, rfl, hb2, hcut2, rfl⟩ := hy.atN (j := 3) rfl (List.getElem?_eq_getElem hj')
      simp only [sx, argsFr, Sq, SI.wanted, AFr.ev, AFr.evV, AFr.get, AFr.box, AFr.put, AFr.setb, AV.val, callee, evArgs, aBin, aUn, oneCell, cellsOf, Value.cells, evParts, evElems, evAll, fillP, zeros, RetK, resAll, resOf, tupleOf, bnd, intOf?, AFr.keep, RefT.cells, undef, Nat.reduceBEq, Nat.reduceAdd, Nat.reduceMul, Nat.reduceLeDiff, Nat.reduceEqDiff, reduceCtorEq, Int.reduceEq, Int.reduceLT, Int.reduceLE, Int.reduceAdd, Int.reduceSub, hi', hj', hb1, hcut1, hb2, hcut2]
      refine Be_ver hA xs[i] ys[i] (.inr rfl) ?_
      by_cases he : xs[i] = ys[i]
      · simp only [sx, argsFr, Sq, SI.wanted, AFr.ev, AFr.evV, AFr.get, AFr.box, AFr.put, AFr.setb, AV.val, callee, evArgs, aBin, aUn, oneCell, cellsOf, Value.cells, evParts, evElems, evAll, fillP, zeros, RetK, resAll, resOf, tupleOf, bnd, intOf?, AFr.keep, RefT.cells, undef, Nat.reduceBEq, Nat.reduceAdd, Nat.reduceMul, Nat.reduceLeDiff, Nat.reduceEqDiff, reduceCtorEq, Int.reduceEq, Int.reduceLT, Int.reduceLE, Int.reduceAdd, Int.reduceSub, he]
        refine ⟨rfl, ih (i + 1) _ _ (by omega) ⟨rfl, ?_, by omega, hb.trans (list_eq_drop hi' hj' he)⟩⟩
        simp only [sx, argsFr, Sq, SI.wanted, AFr.ev, AFr.evV, AFr.get, AFr.box, AFr.put, AFr.setb, AV.val, callee, evArgs, aBin, aUn, oneCell, cellsOf, Value.cells, evParts, evElems, evAll, fillP, zeros, RetK, resAll, resOf, tupleOf, bnd, intOf?, AFr.keep, RefT.cells, undef, Nat.reduceBEq, Nat.reduceAdd, Nat.reduceMul, Nat.reduceLeDiff, Nat.reduceEqDiff, reduceCtorEq, Int.reduceEq, Int.reduceLT, Int.reduceLE, Int.reduceAdd, Int.reduceSub, wrap_up (show i ≤ 1000000000000000 by omega)]
      · simp only [sx, argsFr, Sq, SI.wanted, AFr.ev, AFr.evV, AFr.get, AFr.box, AFr.put, AFr.setb, AV.val, callee, evArgs, aBin, aUn, oneCell, cellsOf, Value.cells, evParts, evElems, evAll, fillP, zeros, RetK, resAll, resOf, tupleOf, bnd, intOf?, AFr.keep, RefT.cells, undef, Nat.reduceBEq, Nat.reduceAdd, Nat.reduceMul, Nat.reduceLeDiff, Nat.reduceEqDiff, reduceCtorEq, Int.reduceEq, Int.reduceLT, Int.reduceLE, Int.reduceAdd, Int.reduceSub, he]
        have hne : decide (xs = ys) = false := by simpa using fun e : xs = ys => he (by simp [e])
        rw [hne] at hR
        exact ⟨rfl, hR⟩
    · simp only [sx, argsFr, Sq, SI.wanted, AFr.ev, AFr.evV, AFr.get, AFr.box, AFr.put, AFr.setb, AV.val, callee, evArgs, aBin, aUn, oneCell, cellsOf, Value.cells, evParts, evElems, evAll, fillP, zeros, RetK, resAll, resOf, tupleOf, bnd, intOf?, AFr.keep, RefT.cells, undef, Nat.reduceBEq, Nat.reduceAdd, Nat.reduceMul, Nat.reduceLeDiff, Nat.reduceEqDiff, reduceCtorEq, Int.reduceEq, Int.reduceLT, Int.reduceLE, Int.reduceAdd, Int.reduceSub]
      have : i = xs.length := by simp at ht; omega
      subst this
      have he : decide (xs = ys) = true := by
        rw [decide_eq_true_eq, hb, List.drop_length, List.drop_eq_nil_of_le (by omega)]
      rw [he] at hR
      exact hR

theorem c31 {D D' σ v w} {x y : Ent} (hx : SlR verK D σ v x.vs) (hy : SlR verK D' σ w y.vs) {R : Value → AHeap → Prop} (hR : R (.bool (decide (x = y))) σ) : C A 31 [.agg #[.string x.name, v], .agg #[.string y.name, w]] σ R := by
  refine C_fn s31 (hA.at rfl) ?_
  obtain ⟨b1, c1, rfl⟩ := hx.shape
  obtain ⟨b2, c2, rfl⟩ := hy.shape
  by_cases hn : x.name = y.name
  · simp only [s31, sx, argsFr, Sq, SI.wanted, AFr.ev, AFr.evV, AFr.get, AFr.box, AFr.put, AFr.setb, AV.val, callee, evArgs, aBin, aUn, oneCell, cellsOf, Value.cells, evParts, evElems, evAll, fillP, zeros, RetK, resAll, resOf, tupleOf, bnd, intOf?, AFr.keep, RefT.cells, undef, Nat.reduceBEq, Nat.reduceAdd, Nat.reduceMul, Nat.reduceLeDiff, Nat.reduceEqDiff, reduceCtorEq, Int.reduceEq, Int.reduceLT, Int.reduceLE, Int.reduceAdd, Int.reduceSub, hn]
    refine Or.inl (c64 hA hx hy ?_)
    have : decide (x = y) = decide (x.vs = y.vs) := by
      cases x; cases y; simp_all
    rw [this] at hR
    simp only [sx, argsFr, Sq, SI.wanted, AFr.ev, AFr.evV, AFr.get, AFr.box, AFr.put, AFr.setb, AV.val, callee, evArgs, aBin, aUn, oneCell, cellsOf, Value.cells, evParts, evElems, evAll, fillP, zeros, RetK, resAll, resOf, tupleOf, bnd, intOf?, AFr.keep, RefT.cells, undef, Nat.reduceBEq, Nat.reduceAdd, Nat.reduceMul, Nat.reduceLeDiff, Nat.reduceEqDiff, reduceCtorEq, Int.reduceEq, Int.reduceLT, Int.reduceLE, Int.reduceAdd, Int.reduceSub]
    exact hR
  · have : decide (x = y) = false := by simpa using fun e => hn (by rw [e])
    rw [this] at hR
    simp only [s31, sx, argsFr, Sq, SI.wanted, AFr.ev, AFr.evV, AFr.get, AFr.box, AFr.put, AFr.setb, AV.val, callee, evArgs, aBin, aUn, oneCell, cellsOf, Value.cells, evParts, evElems, evAll, fillP, zeros, RetK, resAll, resOf, tupleOf, bnd, intOf?, AFr.keep, RefT.cells, undef, Nat.reduceBEq, Nat.reduceAdd, Nat.reduceMul, Nat.reduceLeDiff, Nat.reduceEqDiff, reduceCtorEq, Int.reduceEq, Int.reduceLT, Int.reduceLE, Int.reduceAdd, Int.reduceSub, hn]
    exact hR

theorem c22 {D D' σ v w} {xs ys : List Ent} (hx : SlR entK D σ v xs) (hy : SlR entK D' σ w ys) {R : Value → AHeap → Prop} (hR : R (.bool (decide (xs = ys))) σ) : C A 22 [v, w] σ R := by
  refine C_fn s22 (hA.at rfl) ?_
  obtain ⟨b1, c1, rfl⟩ := hx.shape
  obtain ⟨b2, c2, rfl⟩ := hy.shape
  have hmx := hx.bound
  unfold maxN at hmx
  by_cases hl : xs.length = ys.length
  rotate_left
  · have : ¬ ((xs.length : Int) = (ys.length : Int)) := by omega
    have hne : decide (xs = ys) = false := by simpa using fun e => hl (by rw [e])
    rw [hne] at hR
    simp only [s22, sx, argsFr, Sq, SI.wanted, AFr.ev, AFr.evV, AFr.get, AFr.box, AFr.put, AFr.setb, AV.val, callee, evArgs, aBin, aUn, oneCell, cellsOf, Value.cells, evParts, evElems, evAll, fillP, zeros, RetK, resAll, resOf, tupleOf, bnd, intOf?, AFr.keep, RefT.cells, undef, Nat.reduceBEq, Nat.reduceAdd, Nat.reduceMul, Nat.reduceLeDiff, Nat.reduceEqDiff, reduceCtorEq, Int.reduceEq, Int.reduceLT, Int.reduceLE, Int.reduceAdd, Int.reduceSub, this]
    exact hR
  · have hl' : ((xs.length : Int) = (ys.length : Int)) := by omega
    simp only [s22, sx, argsFr, Sq, SI.wanted, AFr.ev, AFr.evV, AFr.get, AFr.box, AFr.put, AFr.setb, AV.val, callee, evArgs, aBin, aUn, oneCell, cellsOf, Value.cells, evParts, evElems, evAll, fillP, zeros, RetK, resAll, resOf, tupleOf, bnd, intOf?, AFr.keep, RefT.cells, undef, Nat.reduceBEq, Nat.reduceAdd, Nat.reduceMul, Nat.reduceLeDiff, Nat.reduceEqDiff, reduceCtorEq, Int.reduceEq, Int.reduceLT, Int.reduceLE, Int.reduceAdd, Int.reduceSub, hl']
    refine Lp_ind (fun i => xs.length - i) (fun i f σ1 => σ1 = σ ∧ f.keep [0, 1, 12, 13] [] = some ⟨[(0, .v (.slice b1 xs.length c1)), (1, .v (.slice b2 ys.length c2)), (12, .v (.int .i64 xs.length)), (13, .v (.int .i64 i))], []⟩ ∧
      i ≤ xs.length ∧ (xs = ys ↔ xs.drop i = ys.drop i)) ?_ 0 _ _ ⟨rfl, by rw [hl]; rfl, Nat.zero_le _, Iff.rfl⟩
    rintro i f σ1 ⟨rfl, hkp, hi, hb⟩ ih
    rw [St_seq, St_keep hkp]
    simp only [sx, argsFr, Sq, SI.wanted, AFr.ev, AFr.evV, AFr.get, AFr.box, AFr.put, AFr.setb, AV.val, callee, evArgs, aBin, aUn, oneCell, cellsOf, Value.cells, evParts, evElems, evAll, fillP, zeros, RetK, resAll, resOf, tupleOf, bnd, intOf?, AFr.keep, RefT.cells, undef, Nat.reduceBEq, Nat.reduceAdd, Nat.reduceMul, Nat.reduceLeDiff, Nat.reduceEqDiff, reduceCtorEq, Int.reduceEq, Int.reduceLT, Int.reduceLE, Int.reduceAdd, Int.reduceSub]
    refine Cd_split (fun ht => ?_) (fun ht => ?_)
    · have hi' : i < xs.length := by simpa using ht
      have hj' : i < ys.length := by omega
      obtain ⟨p1, o1, cs1, e1, m1, cells1, rfl, hb1, hcut1, u1, rfl, hu1⟩ := hx.atN (j := 2) rfl (List.getElem?_eq_getElem hi')
      obtain ⟨p2, o2, cs2, e2, m2, cells2, rfl, hb2, hcut2, u2, rfl, hu2⟩ := hy.atN (j := 2) rfl (List.getElem?_eq_getElem hj')
      simp only [sx, argsFr, Sq, SI.wanted, AFr.ev, AFr.evV, AFr.get, AFr.box, AFr.put, AFr.setb, AV.val, callee, evArgs, aBin, aUn, oneCell, cellsOf, Value.cells, evParts, evElems, evAll, fillP, zeros, RetK, resAll, resOf, tupleOf, bnd, intOf?, AFr.keep, RefT.cells, undef, Nat.reduceBEq, Nat.reduceAdd, Nat.reduceMul, Nat.reduceLeDiff, Nat.reduceEqDiff, reduceCtorEq, Int.reduceEq, Int.reduceLT, Int.reduceLE, Int.reduceAdd, Int.reduceSub, hi', hj', hb1, hcut1, hb2, hcut2]
      refine Or.inl (c31 hA (x := xs[i]) (y := ys[i]) hu1 hu2 ?_)
      by_cases he : xs[i] = ys[i]
      · simp only [sx, argsFr, Sq, SI.wanted, AFr.ev, AFr.evV, AFr.get, AFr.box, AFr.put, AFr.setb, AV.val, callee, evArgs, aBin, aUn, oneCell, cellsOf, Value.cells, evParts, evElems, evAll, fillP, zeros, RetK, resAll, resOf, tupleOf, bnd, intOf?, AFr.keep, RefT.cells, undef, Nat.reduceBEq, Nat.reduceAdd, Nat.reduceMul, Nat.reduceLeDiff, Nat.reduceEqDiff, reduceCtorEq, Int.reduceEq, Int.reduceLT, Int.reduceLE, Int.reduceAdd, Int.reduceSub, he]
        refine ⟨rfl, ih (i + 1) _ _ (by omega) ⟨rfl, ?_, by omega, hb.trans (list_eq_drop hi' hj' he)⟩⟩
        simp only [sx, argsFr, Sq, SI.wanted, AFr.ev, AFr.evV, AFr.get, AFr.box, AFr.put, AFr.setb, AV.val, callee, evArgs, aBin, aUn, oneCell, cellsOf, Value.cells, evParts, evElems, evAll, fillP, zeros, RetK, resAll, resOf, tupleOf, bnd, intOf?, AFr.keep, RefT.cells, undef, Nat.reduceBEq, Nat.reduceAdd, Nat.reduceMul, Nat.reduceLeDiff, Nat.reduceEqDiff, reduceCtorEq, Int.reduceEq, Int.reduceLT, Int.reduceLE, Int.reduceAdd, Int.reduceSub, wrap_up (show i ≤ 1000000000000000 by omega)]
      · simp only [sx, argsFr, Sq, SI.wanted, AFr.ev, AFr.evV, AFr.get, AFr.box, AFr.put, AFr.setb, AV.val, callee, evArgs, aBin, aUn, oneCell, cellsOf, Value.cells, evParts, evElems, evAll, fillP, zeros, RetK, resAll, resOf, tupleOf, bnd, intOf?, AFr.keep, RefT.cells, undef, Nat.reduceBEq, Nat.reduceAdd, Nat.reduceMul, Nat.reduceLeDiff, Nat.reduceEqDiff, reduceCtorEq, Int.reduceEq, Int.reduceLT, Int.reduceLE, Int.reduceAdd, Int.reduceSub, he]
        have hne : decide (xs = ys) = false := by simpa using fun e : xs = ys => he (by simp [e])
        rw [hne] at hR
        exact ⟨rfl, hR⟩
    · simp only [sx, argsFr, Sq, SI.wanted, AFr.ev, AFr.evV, AFr.get, AFr.box, AFr.put, AFr.setb, AV.val, callee, evArgs, aBin, aUn, oneCell, cellsOf, Value.cells, evParts, evElems, evAll, fillP, zeros, RetK, resAll, resOf, tupleOf, bnd, intOf?, AFr.keep, RefT.cells, undef, Nat.reduceBEq, Nat.reduceAdd, Nat.reduceMul, Nat.reduceLeDiff, Nat.reduceEqDiff, reduceCtorEq, Int.reduceEq, Int.reduceLT, Int.reduceLE, Int.reduceAdd, Int.reduceSub]
      have : i = xs.length := by simp at ht; omega
      subst this
      have he : decide (xs = ys) = true := by
        rw [decide_eq_true_eq, hb, List.drop_length, List.drop_eq_nil_of_le (by omega)]
      rw [he] at hR
      exact hR
end
end Go.Proofs.Ytbldkkabkijpgaa

namespace Go.Proofs.Ytbldkkabkijpgaa
open Go.Am

set_option linter.unusedSimpArgs false
section
variable {A : AProg} (hA : Prg A)
include hA

theorem c56 {D σ v} {xs : List Ver} (h : SlR verK D σ v xs) (hD : ∀ b ∈ D, b < σ.size) {R : Value → AHeap → Prop}
    (hR : ∀ v' N σ', Own verK D σ' N v' xs → Mv [] σ N σ' → R v' σ') : C A 56 [v] σ R := by
  refine C_fn s56 (hA.at rfl) ?_
  obtain ⟨base, c, rfl⟩ := h.shape
  cases base with
  | none =>
    obtain ⟨rfl, _, rfl⟩ := h.none_nil
    simp only [s56, sx, argsFr, Sq, SI.wanted, AFr.ev, AFr.evV, AFr.get, AFr.box, AFr.put, AFr.setb, AV.val, callee, evArgs, aBin, aUn, oneCell, cellsOf, Value.cells, evParts, evElems, evAll, fillP, zeros, RetK, resAll, resOf, tupleOf, bnd, intOf?, AFr.keep, RefT.cells, undef, Nat.reduceBEq, Nat.reduceAdd, Nat.reduceMul, Nat.reduceLeDiff, Nat.reduceEqDiff, reduceCtorEq, Int.reduceEq, Int.reduceLT, Int.reduceLE, Int.reduceAdd, Int.reduceSub, aEq, Option.isNone_none]
    exact hR _ [] σ .nil (Mv.refl _ _)
  | some a =>
    simp only [s56, sx, argsFr, Sq, SI.wanted, AFr.ev, AFr.evV, AFr.get, AFr.box, AFr.put, AFr.setb, AV.val, callee, evArgs, aBin, aUn, oneCell, cellsOf, Value.cells, evParts, evElems, evAll, fillP, zeros, RetK, resAll, resOf, tupleOf, bnd, intOf?, AFr.keep, RefT.cells, undef, Nat.reduceBEq, Nat.reduceAdd, Nat.reduceMul, Nat.reduceLeDiff, Nat.reduceEqDiff, reduceCtorEq, Int.reduceEq, Int.reduceLT, Int.reduceLE, Int.reduceAdd, Int.reduceSub, aEq, Option.isNone_some]
    have h' := h.step (Mv.new D σ (.row [] 3 .W))
    obtain ⟨new, h1, h2, h3⟩ := h'.src (f := ⟨[(6, .v (.slice (some a) xs.length c))], []⟩) (x := .tmp 6) (by simp only [sx, argsFr, Sq, SI.wanted, AFr.ev, AFr.evV, AFr.get, AFr.box, AFr.put, AFr.setb, AV.val, callee, evArgs, aBin, aUn, oneCell, cellsOf, Value.cells, evParts, evElems, evAll, fillP, zeros, RetK, resAll, resOf, tupleOf, bnd, intOf?, AFr.keep, RefT.cells, undef, Nat.reduceBEq, Nat.reduceAdd, Nat.reduceMul, Nat.reduceLeDiff, Nat.reduceEqDiff, reduceCtorEq, Int.reduceEq, Int.reduceLT, Int.reduceLE, Int.reduceAdd, Int.reduceSub]) (e := 3) rfl
    refine Sr_app (K := verK) (D := D) (N := [σ.size]) (xs := []) (ys := xs) (new := new) (v := .slice (some ⟨σ.size, 0, none⟩) 0 3) (by simp only [sx, argsFr, Sq, SI.wanted, AFr.ev, AFr.evV, AFr.get, AFr.box, AFr.put, AFr.setb, AV.val, callee, evArgs, aBin, aUn, oneCell, cellsOf, Value.cells, evParts, evElems, evAll, fillP, zeros, RetK, resAll, resOf, tupleOf, bnd, intOf?, AFr.keep, RefT.cells, undef, Nat.reduceBEq, Nat.reduceAdd, Nat.reduceMul, Nat.reduceLeDiff, Nat.reduceEqDiff, reduceCtorEq, Int.reduceEq, Int.reduceLT, Int.reduceLE, Int.reduceAdd, Int.reduceSub])
      (Own.newEmpty rfl hD) rfl (by decide) ?_ h2 h3 rfl (by rw [List.length_nil, Nat.zero_add]; exact h.bnd) (fun v' N' σ' ho hm => ?_) (fun b hb => by have := hD b hb; simp; omega)
    · simpa only [srcOf, sx, argsFr, Sq, SI.wanted, AFr.ev, AFr.evV, AFr.get, AFr.box, AFr.put, AFr.setb, AV.val, callee, evArgs, aBin, aUn, oneCell, cellsOf, Value.cells, evParts, evElems, evAll, fillP, zeros, RetK, resAll, resOf, tupleOf, bnd, intOf?, AFr.keep, RefT.cells, undef, Nat.reduceBEq, Nat.reduceAdd, Nat.reduceMul, Nat.reduceLeDiff, Nat.reduceEqDiff, reduceCtorEq, Int.reduceEq, Int.reduceLT, Int.reduceLE, Int.reduceAdd, Int.reduceSub] using h1
    · simp only [sx, argsFr, Sq, SI.wanted, AFr.ev, AFr.evV, AFr.get, AFr.box, AFr.put, AFr.setb, AV.val, callee, evArgs, aBin, aUn, oneCell, cellsOf, Value.cells, evParts, evElems, evAll, fillP, zeros, RetK, resAll, resOf, tupleOf, bnd, intOf?, AFr.keep, RefT.cells, undef, Nat.reduceBEq, Nat.reduceAdd, Nat.reduceMul, Nat.reduceLeDiff, Nat.reduceEqDiff, reduceCtorEq, Int.reduceEq, Int.reduceLT, Int.reduceLE, Int.reduceAdd, Int.reduceSub]
      exact hR v' N' σ' ho (((Mv.new [] σ _).trans hm))

theorem c128 {D σ v} {xs : List KidT} (h : SlR kidK D σ v xs) (hD : ∀ b ∈ D, b < σ.size) {R : Value → AHeap → Prop}
    (hR : ∀ v' N σ', Own kidK D σ' N v' xs → Mv [] σ N σ' → R v' σ') : C A 128 [v] σ R := by
  refine C_fn s128 (hA.at rfl) ?_
  obtain ⟨base, c, rfl⟩ := h.shape
  cases base with
  | none =>
    obtain ⟨rfl, _, rfl⟩ := h.none_nil
    simp only [s128, sx, argsFr, Sq, SI.wanted, AFr.ev, AFr.evV, AFr.get, AFr.box, AFr.put, AFr.setb, AV.val, callee, evArgs, aBin, aUn, oneCell, cellsOf, Value.cells, evParts, evElems, evAll, fillP, zeros, RetK, resAll, resOf, tupleOf, bnd, intOf?, AFr.keep, RefT.cells, undef, Nat.reduceBEq, Nat.reduceAdd, Nat.reduceMul, Nat.reduceLeDiff, Nat.reduceEqDiff, reduceCtorEq, Int.reduceEq, Int.reduceLT, Int.reduceLE, Int.reduceAdd, Int.reduceSub, aEq, Option.isNone_none]
    exact hR _ [] σ .nil (Mv.refl _ _)
  | some a =>
    simp only [s128, sx, argsFr, Sq, SI.wanted, AFr.ev, AFr.evV, AFr.get, AFr.box, AFr.put, AFr.setb, AV.val, callee, evArgs, aBin, aUn, oneCell, cellsOf, Value.cells, evParts, evElems, evAll, fillP, zeros, RetK, resAll, resOf, tupleOf, bnd, intOf?, AFr.keep, RefT.cells, undef, Nat.reduceBEq, Nat.reduceAdd, Nat.reduceMul, Nat.reduceLeDiff, Nat.reduceEqDiff, reduceCtorEq, Int.reduceEq, Int.reduceLT, Int.reduceLE, Int.reduceAdd, Int.reduceSub, aEq, Option.isNone_some]
    have h' := h.step (Mv.new D σ (.row [] 5 .W))
    obtain ⟨new, h1, h2, h3⟩ := h'.src (f := ⟨[(6, .v (.slice (some a) xs.length c))], []⟩) (x := .tmp 6) (by simp only [sx, argsFr, Sq, SI.wanted, AFr.ev, AFr.evV, AFr.get, AFr.box, AFr.put, AFr.setb, AV.val, callee, evArgs, aBin, aUn, oneCell, cellsOf, Value.cells, evParts, evElems, evAll, fillP, zeros, RetK, resAll, resOf, tupleOf, bnd, intOf?, AFr.keep, RefT.cells, undef, Nat.reduceBEq, Nat.reduceAdd, Nat.reduceMul, Nat.reduceLeDiff, Nat.reduceEqDiff, reduceCtorEq, Int.reduceEq, Int.reduceLT, Int.reduceLE, Int.reduceAdd, Int.reduceSub]) (e := 5) rfl
    refine Sr_app (K := kidK) (D := D) (N := [σ.size]) (xs := []) (ys := xs) (new := new) (v := .slice (some ⟨σ.size, 0, none⟩) 0 5) (by simp only [sx, argsFr, Sq, SI.wanted, AFr.ev, AFr.evV, AFr.get, AFr.box, AFr.put, AFr.setb, AV.val, callee, evArgs, aBin, aUn, oneCell, cellsOf, Value.cells, evParts, evElems, evAll, fillP, zeros, RetK, resAll, resOf, tupleOf, bnd, intOf?, AFr.keep, RefT.cells, undef, Nat.reduceBEq, Nat.reduceAdd, Nat.reduceMul, Nat.reduceLeDiff, Nat.reduceEqDiff, reduceCtorEq, Int.reduceEq, Int.reduceLT, Int.reduceLE, Int.reduceAdd, Int.reduceSub])
      (Own.newEmpty rfl hD) rfl (by decide) ?_ h2 h3 rfl (by rw [List.length_nil, Nat.zero_add]; exact h.bnd) (fun v' N' σ' ho hm => ?_) (fun b hb => by have := hD b hb; simp; omega)
    · simpa only [srcOf, sx, argsFr, Sq, SI.wanted, AFr.ev, AFr.evV, AFr.get, AFr.box, AFr.put, AFr.setb, AV.val, callee, evArgs, aBin, aUn, oneCell, cellsOf, Value.cells, evParts, evElems, evAll, fillP, zeros, RetK, resAll, resOf, tupleOf, bnd, intOf?, AFr.keep, RefT.cells, undef, Nat.reduceBEq, Nat.reduceAdd, Nat.reduceMul, Nat.reduceLeDiff, Nat.reduceEqDiff, reduceCtorEq, Int.reduceEq, Int.reduceLT, Int.reduceLE, Int.reduceAdd, Int.reduceSub] using h1
    · simp only [sx, argsFr, Sq, SI.wanted, AFr.ev, AFr.evV, AFr.get, AFr.box, AFr.put, AFr.setb, AV.val, callee, evArgs, aBin, aUn, oneCell, cellsOf, Value.cells, evParts, evElems, evAll, fillP, zeros, RetK, resAll, resOf, tupleOf, bnd, intOf?, AFr.keep, RefT.cells, undef, Nat.reduceBEq, Nat.reduceAdd, Nat.reduceMul, Nat.reduceLeDiff, Nat.reduceEqDiff, reduceCtorEq, Int.reduceEq, Int.reduceLT, Int.reduceLE, Int.reduceAdd, Int.reduceSub]
      exact hR v' N' σ' ho (((Mv.new [] σ _).trans hm))

theorem c127 {D σ v} {xs : List Ent} (h : SlR entK D σ v xs) (hD : ∀ b ∈ D, b < σ.size) {R : Value → AHeap → Prop}
    (hR : ∀ v' N σ', Own entK D σ' N v' xs → Mv [] σ N σ' → R v' σ') : C A 127 [v] σ R := by
  refine C_fn s127 (hA.at rfl) ?_
  obtain ⟨base, c, rfl⟩ := h.shape
  cases base with
  | none =>
    obtain ⟨rfl, _, rfl⟩ := h.none_nil
    simp only [s127, sx, argsFr, Sq, SI.wanted, AFr.ev, AFr.evV, AFr.get, AFr.box, AFr.put, AFr.setb, AV.val, callee, evArgs, aBin, aUn, oneCell, cellsOf, Value.cells, evParts, evElems, evAll, fillP, zeros, RetK, resAll, resOf, tupleOf, bnd, intOf?, AFr.keep, RefT.cells, undef, Nat.reduceBEq, Nat.reduceAdd, Nat.reduceMul, Nat.reduceLeDiff, Nat.reduceEqDiff, reduceCtorEq, Int.reduceEq, Int.reduceLT, Int.reduceLE, Int.reduceAdd, Int.reduceSub, aEq, Option.isNone_none]
    exact hR _ [] σ .nil (Mv.refl _ _)
  | some a =>
    simp only [s127, sx, argsFr, Sq, SI.wanted, AFr.ev, AFr.evV, AFr.get, AFr.box, AFr.put, AFr.setb, AV.val, callee, evArgs, aBin, aUn, oneCell, cellsOf, Value.cells, evParts, evElems, evAll, fillP, zeros, RetK, resAll, resOf, tupleOf, bnd, intOf?, AFr.keep, RefT.cells, undef, Nat.reduceBEq, Nat.reduceAdd, Nat.reduceMul, Nat.reduceLeDiff, Nat.reduceEqDiff, reduceCtorEq, Int.reduceEq, Int.reduceLT, Int.reduceLE, Int.reduceAdd, Int.reduceSub, aEq, Option.isNone_some]
    have h' := h.step (Mv.new D σ (.row [] 2 .W))
    obtain ⟨new, h1, h2, h3⟩ := h'.src (f := ⟨[(6, .v (.slice (some a) xs.length c))], []⟩) (x := .tmp 6) (by simp only [sx, argsFr, Sq, SI.wanted, AFr.ev, AFr.evV, AFr.get, AFr.box, AFr.put, AFr.setb, AV.val, callee, evArgs, aBin, aUn, oneCell, cellsOf, Value.cells, evParts, evElems, evAll, fillP, zeros, RetK, resAll, resOf, tupleOf, bnd, intOf?, AFr.keep, RefT.cells, undef, Nat.reduceBEq, Nat.reduceAdd, Nat.reduceMul, Nat.reduceLeDiff, Nat.reduceEqDiff, reduceCtorEq, Int.reduceEq, Int.reduceLT, Int.reduceLE, Int.reduceAdd, Int.reduceSub]) (e := 2) rfl
    refine Sr_app (K := entK) (D := D) (N := [σ.size]) (xs := []) (ys := xs) (new := new) (v := .slice (some ⟨σ.size, 0, none⟩) 0 2) (by simp only [sx, argsFr, Sq, SI.wanted, AFr.ev, AFr.evV, AFr.get, AFr.box, AFr.put, AFr.setb, AV.val, callee, evArgs, aBin, aUn, oneCell, cellsOf, Value.cells, evParts, evElems, evAll, fillP, zeros, RetK, resAll, resOf, tupleOf, bnd, intOf?, AFr.keep, RefT.cells, undef, Nat.reduceBEq, Nat.reduceAdd, Nat.reduceMul, Nat.reduceLeDiff, Nat.reduceEqDiff, reduceCtorEq, Int.reduceEq, Int.reduceLT, Int.reduceLE, Int.reduceAdd, Int.reduceSub])
      (Own.newEmpty rfl hD) rfl (by decide) ?_ h2 h3 rfl (by rw [List.length_nil, Nat.zero_add]; exact h.bnd) (fun v' N' σ' ho hm => ?_) (fun b hb => by have := hD b hb; simp; omega)
    · simpa only [srcOf, sx, argsFr, Sq, SI.wanted, AFr.ev, AFr.evV, AFr.get, AFr.box, AFr.put, AFr.setb, AV.val, callee, evArgs, aBin, aUn, oneCell, cellsOf, Value.cells, evParts, evElems, evAll, fillP, zeros, RetK, resAll, resOf, tupleOf, bnd, intOf?, AFr.keep, RefT.cells, undef, Nat.reduceBEq, Nat.reduceAdd, Nat.reduceMul, Nat.reduceLeDiff, Nat.reduceEqDiff, reduceCtorEq, Int.reduceEq, Int.reduceLT, Int.reduceLE, Int.reduceAdd, Int.reduceSub] using h1
    · simp only [sx, argsFr, Sq, SI.wanted, AFr.ev, AFr.evV, AFr.get, AFr.box, AFr.put, AFr.setb, AV.val, callee, evArgs, aBin, aUn, oneCell, cellsOf, Value.cells, evParts, evElems, evAll, fillP, zeros, RetK, resAll, resOf, tupleOf, bnd, intOf?, AFr.keep, RefT.cells, undef, Nat.reduceBEq, Nat.reduceAdd, Nat.reduceMul, Nat.reduceLeDiff, Nat.reduceEqDiff, reduceCtorEq, Int.reduceEq, Int.reduceLT, Int.reduceLE, Int.reduceAdd, Int.reduceSub]
      exact hR v' N' σ' ho (((Mv.new [] σ _).trans hm))
end
end Go.Proofs.Ytbldkkabkijpgaa

namespace Go.Proofs.Ytbldkkabkijpgaa
open Go.Am

set_option linter.unusedSimpArgs false
section
variable {A : AProg} (hA : Prg A)
include hA

theorem c99 {D σ ve vk} {x : NodeT} (he : SlR entK D σ ve x.es) (hk : SlR kidK D σ vk x.ks) (hD : ∀ b ∈ D, b < σ.size) {R : Value → AHeap → Prop}
    (hR : ∀ ve' vk' N1 N2 σ', NodeO D N1 N2 σ' ve' vk' x → Mv [] σ (N1 ++ N2) σ' → R (.agg #[.bool x.leaf, ve', vk']) σ') : C A 99 [.agg #[.bool x.leaf, ve, vk]] σ R := by
  refine C_fn s99 (hA.at rfl) ?_
  obtain ⟨base, c, rfl⟩ := he.shape
  obtain ⟨base2, c2, rfl⟩ := hk.shape
  simp only [s99, sx, argsFr, Sq, SI.wanted, AFr.ev, AFr.evV, AFr.get, AFr.box, AFr.put, AFr.setb, AV.val, callee, evArgs, aBin, aUn, oneCell, cellsOf, Value.cells, evParts, evElems, evAll, fillP, zeros, RetK, resAll, resOf, tupleOf, bnd, intOf?, AFr.keep, RefT.cells, undef, Nat.reduceBEq, Nat.reduceAdd, Nat.reduceMul, Nat.reduceLeDiff, Nat.reduceEqDiff, reduceCtorEq, Int.reduceEq, Int.reduceLT, Int.reduceLE, Int.reduceAdd, Int.reduceSub]
  refine Or.inl (c128 hA hk hD (fun vk' N2 σ1 ho2 hm1 => ?_))
  obtain ⟨base3, c3, rfl⟩ := ho2.shape
  simp only [sx, argsFr, Sq, SI.wanted, AFr.ev, AFr.evV, AFr.get, AFr.box, AFr.put, AFr.setb, AV.val, callee, evArgs, aBin, aUn, oneCell, cellsOf, Value.cells, evParts, evElems, evAll, fillP, zeros, RetK, resAll, resOf, tupleOf, bnd, intOf?, AFr.keep, RefT.cells, undef, Nat.reduceBEq, Nat.reduceAdd, Nat.reduceMul, Nat.reduceLeDiff, Nat.reduceEqDiff, reduceCtorEq, Int.reduceEq, Int.reduceLT, Int.reduceLE, Int.reduceAdd, Int.reduceSub]
  refine ⟨rfl, ?_⟩
  have hb0 := he.bnd
  have hmx := he.bound
  refine Lp_ind (fun i => x.es.length - i) (fun i f σ' => ∃ v vk' N1 N2, f.keep [2, 3, 13, 14, 15] [2, 3] = some ⟨[(2, .l 2 0), (3, .l 3 0), (13, .v (.slice base x.es.length c)), (14, .v (.int .i64 x.es.length)), (15, .v (.int .i64 i))],
      [(2, [.bool false, .slice none 0 0, .slice none 0 0]), (3, [.bool x.leaf, v, vk'])]⟩ ∧
    i ≤ x.es.length ∧ Own entK (N2 ++ D) σ' N1 v (x.es.take i) ∧ Own kidK (N1 ++ D) σ' N2 vk' x.ks ∧ Mv [] σ (N1 ++ N2) σ') ?_ 0 _ _ ⟨_, _, [], N2, rfl, Nat.zero_le _, .nil, ho2, hm1⟩
  clear hm1 ho2 base3 c3 N2 σ1
  rintro i f σ1 ⟨v, vk', N1, N2, hkp, hi, ho, ho2, hm⟩ ih
  obtain ⟨bv, cv, rfl⟩ := ho.shape
  obtain ⟨base3, c3, rfl⟩ := ho2.shape
  rw [St_seq, St_keep hkp]
  simp only [sx, argsFr, Sq, SI.wanted, AFr.ev, AFr.evV, AFr.get, AFr.box, AFr.put, AFr.setb, AV.val, callee, evArgs, aBin, aUn, oneCell, cellsOf, Value.cells, evParts, evElems, evAll, fillP, zeros, RetK, resAll, resOf, tupleOf, bnd, intOf?, AFr.keep, RefT.cells, undef, Nat.reduceBEq, Nat.reduceAdd, Nat.reduceMul, Nat.reduceLeDiff, Nat.reduceEqDiff, reduceCtorEq, Int.reduceEq, Int.reduceLT, Int.reduceLE, Int.reduceAdd, Int.reduceSub]
  have hDN : ∀ b ∈ N2 ++ D, b < σ1.size := lt_app ho2.lt hD hm.size
  have hDN1 : ∀ b ∈ N1 ++ (N2 ++ D), b < σ1.size := lt_app ho.lt hDN (Nat.le_refl _)
  refine Cd_split (fun ht => ?_) (fun ht => ?_)
  · have hi' : i < x.es.length := by simpa using ht
    obtain ⟨b, off, cs, e, m, cells, rfl, hb, hcut, y, hy, hys⟩ := (he.step (hm.mono (E := D) (E' := N1 ++ (N2 ++ D)) (by simp) (fun b hb => by simp only [List.mem_append] at hb ⊢; exact or_assoc.2 hb))).atN (j := 2) rfl (List.getElem?_eq_getElem hi')
    subst hy
    obtain ⟨base', c', rfl⟩ := hys.shape
    simp only [sx, argsFr, Sq, SI.wanted, AFr.ev, AFr.evV, AFr.get, AFr.box, AFr.put, AFr.setb, AV.val, callee, evArgs, aBin, aUn, oneCell, cellsOf, Value.cells, evParts, evElems, evAll, fillP, zeros, RetK, resAll, resOf, tupleOf, bnd, intOf?, AFr.keep, RefT.cells, undef, Nat.reduceBEq, Nat.reduceAdd, Nat.reduceMul, Nat.reduceLeDiff, Nat.reduceEqDiff, reduceCtorEq, Int.reduceEq, Int.reduceLT, Int.reduceLE, Int.reduceAdd, Int.reduceSub, hb, hi', hcut]
    refine Or.inl (c56 hA hys hDN1 (fun v' N3 σ2 ho3 hm2 => ?_))
    obtain ⟨b4, c4, rfl⟩ := ho3.shape
    simp only [sx, argsFr, Sq, SI.wanted, AFr.ev, AFr.evV, AFr.get, AFr.box, AFr.put, AFr.setb, AV.val, callee, evArgs, aBin, aUn, oneCell, cellsOf, Value.cells, evParts, evElems, evAll, fillP, zeros, RetK, resAll, resOf, tupleOf, bnd, intOf?, AFr.keep, RefT.cells, undef, Nat.reduceBEq, Nat.reduceAdd, Nat.reduceMul, Nat.reduceLeDiff, Nat.reduceEqDiff, reduceCtorEq, Int.reduceEq, Int.reduceLT, Int.reduceLE, Int.reduceAdd, Int.reduceSub]
    refine Sr_app (K := entK) (D := N2 ++ D) (N := N1) (ys := [x.es[i]]) (new := [.string x.es[i].name, .slice b4 x.es[i].vs.length c4])
      (by simp only [sx, argsFr, Sq, SI.wanted, AFr.ev, AFr.evV, AFr.get, AFr.box, AFr.put, AFr.setb, AV.val, callee, evArgs, aBin, aUn, oneCell, cellsOf, Value.cells, evParts, evElems, evAll, fillP, zeros, RetK, resAll, resOf, tupleOf, bnd, intOf?, AFr.keep, RefT.cells, undef, Nat.reduceBEq, Nat.reduceAdd, Nat.reduceMul, Nat.reduceLeDiff, Nat.reduceEqDiff, reduceCtorEq, Int.reduceEq, Int.reduceLT, Int.reduceLE, Int.reduceAdd, Int.reduceSub]) (ho.step (hm2.any _)) rfl (by decide) (by simp [srcOf, AFr.ev, AFr.get, AFr.put, List.lookup]) rfl (Kd.list_one ⟨_, rfl, ho3.sl⟩)
      rfl (by simp only [List.length_singleton, List.length_take]; rw [Nat.min_eq_left hi]; exact Nat.le_trans (Nat.mul_le_mul_right _ hi') hb0) (fun v5 N1' σ3 ho5 hm5 => ?_) (fun b hb => Nat.lt_of_lt_of_le (hDN b hb) hm2.size)
    obtain ⟨b5, c5, rfl⟩ := ho5.shape
    simp only [sx, argsFr, Sq, SI.wanted, AFr.ev, AFr.evV, AFr.get, AFr.box, AFr.put, AFr.setb, AV.val, callee, evArgs, aBin, aUn, oneCell, cellsOf, Value.cells, evParts, evElems, evAll, fillP, zeros, RetK, resAll, resOf, tupleOf, bnd, intOf?, AFr.keep, RefT.cells, undef, Nat.reduceBEq, Nat.reduceAdd, Nat.reduceMul, Nat.reduceLeDiff, Nat.reduceEqDiff, reduceCtorEq, Int.reduceEq, Int.reduceLT, Int.reduceLE, Int.reduceAdd, Int.reduceSub]
    refine ⟨rfl, ?_⟩
    refine ih (i + 1) _ _ (by omega) ⟨.slice b5 (x.es.take i ++ [x.es[i]]).length c5, .slice base3 x.ks.length c3, N1', N2, ?_, by omega, ?_, ?_, ?_⟩
    · simp only [sx, argsFr, Sq, SI.wanted, AFr.ev, AFr.evV, AFr.get, AFr.box, AFr.put, AFr.setb, AV.val, callee, evArgs, aBin, aUn, oneCell, cellsOf, Value.cells, evParts, evElems, evAll, fillP, zeros, RetK, resAll, resOf, tupleOf, bnd, intOf?, AFr.keep, RefT.cells, undef, Nat.reduceBEq, Nat.reduceAdd, Nat.reduceMul, Nat.reduceLeDiff, Nat.reduceEqDiff, reduceCtorEq, Int.reduceEq, Int.reduceLT, Int.reduceLE, Int.reduceAdd, Int.reduceSub, wrap_up (show i ≤ 1000000000000000 by unfold maxN at *; omega)]
    · rw [List.take_succ_eq_append_getElem hi']
      exact ho5
    · exact ho2.step ((hm2.any (N1 ++ D)).trans (hm5.post D))
    · exact hm.trans ((hm2.any (N1 ++ N2)).trans (hm5.post N2))
  · simp only [sx, argsFr, Sq, SI.wanted, AFr.ev, AFr.evV, AFr.get, AFr.box, AFr.put, AFr.setb, AV.val, callee, evArgs, aBin, aUn, oneCell, cellsOf, Value.cells, evParts, evElems, evAll, fillP, zeros, RetK, resAll, resOf, tupleOf, bnd, intOf?, AFr.keep, RefT.cells, undef, Nat.reduceBEq, Nat.reduceAdd, Nat.reduceMul, Nat.reduceLeDiff, Nat.reduceEqDiff, reduceCtorEq, Int.reduceEq, Int.reduceLT, Int.reduceLE, Int.reduceAdd, Int.reduceSub]
    have : i = x.es.length := by simp at ht; omega
    subst this
    exact hR _ _ N1 N2 σ1 ⟨by simpa using ho, ho2⟩ hm

theorem c120 {σ} {n : Nat} (hn : n ≤ 1000000) {R : Value → AHeap → Prop} (hR : R (.agg (refN n).cells.toArray) σ) : C A 120 [.int .i64 n] σ R := by
  refine C_fn s120 (hA.at rfl) ?_
  have e1 : IntKind.u64.wrap (IntKind.u64.wrap (n : Int) + 1) = ((n + 1 : Nat) : Int) := by
    rw [wrap_u (by omega)]
    exact wrap_u (n := n + 1) (by omega)
  have e2 : IntKind.i64.wrap ((n : Int).tdiv 4) = ((n / 4 : Nat) : Int) := wrap_n (n := n / 4) (by omega)
  have e3 : (n : Int).tmod 4 = ((n % 4 : Nat) : Int) := rfl
  simp only [s120, sx, argsFr, Sq, SI.wanted, AFr.ev, AFr.evV, AFr.get, AFr.box, AFr.put, AFr.setb, AV.val, callee, evArgs, aBin, aUn, oneCell, cellsOf, Value.cells, evParts, evElems, evAll, fillP, zeros, RetK, resAll, resOf, tupleOf, bnd, intOf?, AFr.keep, RefT.cells, undef, Nat.reduceBEq, Nat.reduceAdd, Nat.reduceMul, Nat.reduceLeDiff, Nat.reduceEqDiff, reduceCtorEq, Int.reduceEq, Int.reduceLT, Int.reduceLE, Int.reduceAdd, Int.reduceSub, e1, e2, e3]
  exact hR

theorem c19 {D0 N σ hb H} (hh : HeapIs D0 N σ hb H) {R : Value → AHeap → Prop} (hR : R (.int .i64 H.length) σ) : C A 19 [.pointer (some ⟨hb, 0, none⟩)] σ R := by
  refine C_fn s19 (hA.at rfl) ?_
  obtain ⟨⟨v, hc, ho⟩, hout⟩ := hh
  obtain ⟨b, c, rfl⟩ := ho.shape
  simp only [s19, sx, argsFr, Sq, SI.wanted, AFr.ev, AFr.evV, AFr.get, AFr.box, AFr.put, AFr.setb, AV.val, callee, evArgs, aBin, aUn, oneCell, cellsOf, Value.cells, evParts, evElems, evAll, fillP, zeros, RetK, resAll, resOf, tupleOf, bnd, intOf?, AFr.keep, RefT.cells, undef, Nat.reduceBEq, Nat.reduceAdd, Nat.reduceMul, Nat.reduceLeDiff, Nat.reduceEqDiff, reduceCtorEq, Int.reduceEq, Int.reduceLT, Int.reduceLE, Int.reduceAdd, Int.reduceSub, hc]
  exact hR

theorem c13 {D0 σ} (hD : ∀ b ∈ D0, b < σ.size) {R : Value → AHeap → Prop} (hR : ∀ σ', HeapIs D0 [] σ' σ.size [] → Mv [] σ [σ.size] σ' → R (.pointer (some ⟨σ.size, 0, none⟩)) σ') : C A 13 [] σ R := by
  refine C_fn s13 (hA.at rfl) ?_
  simp only [s13, sx, argsFr, Sq, SI.wanted, AFr.ev, AFr.evV, AFr.get, AFr.box, AFr.put, AFr.setb, AV.val, callee, evArgs, aBin, aUn, oneCell, cellsOf, Value.cells, evParts, evElems, evAll, fillP, zeros, RetK, resAll, resOf, tupleOf, bnd, intOf?, AFr.keep, RefT.cells, undef, Nat.reduceBEq, Nat.reduceAdd, Nat.reduceMul, Nat.reduceLeDiff, Nat.reduceEqDiff, reduceCtorEq, Int.reduceEq, Int.reduceLT, Int.reduceLE, Int.reduceAdd, Int.reduceSub]
  exact hR _ ⟨⟨_, by simp, .nil⟩, fun h => by have := hD _ h; omega⟩ (Mv.new [] σ _)

theorem c160 {D0 N σ hb H ve vk} {x : NodeT} (hh : HeapIs D0 N σ hb H) (he : SlR entK (N ++ hb :: D0) σ ve x.es) (hk : SlR kidK (N ++ hb :: D0) σ vk x.ks) (hD : ∀ b ∈ D0, b < σ.size) {R : Value → AHeap → Prop}
    (h0 : 20000 ≤ H.length → R (.tuple #[.agg #[.int .u64 0, .int .i64 0, .int .i64 0, .int .i64 0], .int .i64 2]) σ)
    (h1 : H.length < 20000 → ∀ N' σ', HeapIs D0 N' σ' hb (H ++ [x]) → Mv (N ++ [hb]) σ (N' ++ [hb]) σ' → R (.tuple #[.agg (refN H.length).cells.toArray, .int .i64 0]) σ') :
    C A 160 [.pointer (some ⟨hb, 0, none⟩), .agg #[.bool x.leaf, ve, vk]] σ R := by
  refine C_fn s160 (hA.at rfl) ?_
  have hlt := hh.lt
  obtain ⟨⟨v, hc, ho⟩, hout⟩ := hh
  obtain ⟨b, c, rfl⟩ := ho.shape
  obtain ⟨base, c1, rfl⟩ := he.shape
  obtain ⟨base2, c2, rfl⟩ := hk.shape
  have hDN : ∀ b ∈ N ++ hb :: D0, b < σ.size := lt_app ho.lt (fun b hb => by
    rcases List.mem_cons.1 hb with rfl | hb
    · exact hlt
    · exact hD _ hb) (Nat.le_refl _)
  simp only [s160, sx, argsFr, Sq, SI.wanted, AFr.ev, AFr.evV, AFr.get, AFr.box, AFr.put, AFr.setb, AV.val, callee, evArgs, aBin, aUn, oneCell, cellsOf, Value.cells, evParts, evElems, evAll, fillP, zeros, RetK, resAll, resOf, tupleOf, bnd, intOf?, AFr.keep, RefT.cells, undef, Nat.reduceBEq, Nat.reduceAdd, Nat.reduceMul, Nat.reduceLeDiff, Nat.reduceEqDiff, reduceCtorEq, Int.reduceEq, Int.reduceLT, Int.reduceLE, Int.reduceAdd, Int.reduceSub, hc]
  refine Cd_split (fun ht => ?_) (fun ht => ?_)
  · simp only [sx, argsFr, Sq, SI.wanted, AFr.ev, AFr.evV, AFr.get, AFr.box, AFr.put, AFr.setb, AV.val, callee, evArgs, aBin, aUn, oneCell, cellsOf, Value.cells, evParts, evElems, evAll, fillP, zeros, RetK, resAll, resOf, tupleOf, bnd, intOf?, AFr.keep, RefT.cells, undef, Nat.reduceBEq, Nat.reduceAdd, Nat.reduceMul, Nat.reduceLeDiff, Nat.reduceEqDiff, reduceCtorEq, Int.reduceEq, Int.reduceLT, Int.reduceLE, Int.reduceAdd, Int.reduceSub]
    exact h0 (by simp at ht; omega)
  · have hl : H.length < 20000 := by simp at ht; omega
    simp only [sx, argsFr, Sq, SI.wanted, AFr.ev, AFr.evV, AFr.get, AFr.box, AFr.put, AFr.setb, AV.val, callee, evArgs, aBin, aUn, oneCell, cellsOf, Value.cells, evParts, evElems, evAll, fillP, zeros, RetK, resAll, resOf, tupleOf, bnd, intOf?, AFr.keep, RefT.cells, undef, Nat.reduceBEq, Nat.reduceAdd, Nat.reduceMul, Nat.reduceLeDiff, Nat.reduceEqDiff, reduceCtorEq, Int.reduceEq, Int.reduceLT, Int.reduceLE, Int.reduceAdd, Int.reduceSub, hc]
    refine Or.inr (c99 hA he hk hDN (fun ve' vk' N1 N2 σ1 hn hm => ⟨hm.ext, ?_⟩))
    obtain ⟨b3, c3, rfl⟩ := hn.es.shape
    obtain ⟨b4, c4, rfl⟩ := hn.ks.shape
    have hc1 : σ1[hb]? = some (.row [.slice b H.length c] 0 .W) := (hm.keep hb hlt (by simp)).trans hc
    have ho1 := ho.step (hm.any _)
    simp only [sx, argsFr, Sq, SI.wanted, AFr.ev, AFr.evV, AFr.get, AFr.box, AFr.put, AFr.setb, AV.val, callee, evArgs, aBin, aUn, oneCell, cellsOf, Value.cells, evParts, evElems, evAll, fillP, zeros, RetK, resAll, resOf, tupleOf, bnd, intOf?, AFr.keep, RefT.cells, undef, Nat.reduceBEq, Nat.reduceAdd, Nat.reduceMul, Nat.reduceLeDiff, Nat.reduceEqDiff, reduceCtorEq, Int.reduceEq, Int.reduceLT, Int.reduceLE, Int.reduceAdd, Int.reduceSub]
    refine Sr_app (K := nodeK) (D := hb :: D0) (N := N) (ys := [x]) (new := [.bool x.leaf, .slice b3 x.es.length c3, .slice b4 x.ks.length c4])
      (by simp only [sx, argsFr, Sq, SI.wanted, AFr.ev, AFr.evV, AFr.get, AFr.box, AFr.put, AFr.setb, AV.val, callee, evArgs, aBin, aUn, oneCell, cellsOf, Value.cells, evParts, evElems, evAll, fillP, zeros, RetK, resAll, resOf, tupleOf, bnd, intOf?, AFr.keep, RefT.cells, undef, Nat.reduceBEq, Nat.reduceAdd, Nat.reduceMul, Nat.reduceLeDiff, Nat.reduceEqDiff, reduceCtorEq, Int.reduceEq, Int.reduceLT, Int.reduceLE, Int.reduceAdd, Int.reduceSub]) ho1 rfl (by decide) (by simp [srcOf, AFr.ev, AFr.get, AFr.put, List.lookup]) rfl (Kd.list_one hn.rel)
      rfl (by unfold maxN; simp only [List.length_singleton]; omega) (fun v' N' σ2 ho2 hm2 => ?_) (fun b hb => Nat.lt_of_lt_of_le (hDN b (by simp only [List.mem_append]; exact .inr hb)) hm.size)
    obtain ⟨b5, c5, rfl⟩ := ho2.shape
    have hN : hb ∉ N := fun h => ho.out hb h (by simp)
    have hc2 : σ2[hb]? = some (.row [.slice b H.length c] 0 .W) := (hm2.keep hb (Nat.lt_of_lt_of_le hlt hm.size) hN).trans hc1
    have hb2 : hb < σ2.size := lt_of_get hc2
    have hw : IntKind.i64.wrap ((((H ++ [x]).length : Nat) : Int) - 1) = (H.length : Int) := by
      rw [List.length_append, List.length_singleton, wrap_in (by omega) (by omega)]
      omega
    simp only [sx, argsFr, Sq, SI.wanted, AFr.ev, AFr.evV, AFr.get, AFr.box, AFr.put, AFr.setb, AV.val, callee, evArgs, aBin, aUn, oneCell, cellsOf, Value.cells, evParts, evElems, evAll, fillP, zeros, RetK, resAll, resOf, tupleOf, bnd, intOf?, AFr.keep, RefT.cells, undef, Nat.reduceBEq, Nat.reduceAdd, Nat.reduceMul, Nat.reduceLeDiff, Nat.reduceEqDiff, reduceCtorEq, Int.reduceEq, Int.reduceLT, Int.reduceLE, Int.reduceAdd, Int.reduceSub, hc2, Array.getElem?_setIfInBounds_self_of_lt hb2, hw]
    refine ⟨rfl, ?_⟩
    refine Or.inl (c120 hA (by omega) ?_)
    simp only [sx, argsFr, Sq, SI.wanted, AFr.ev, AFr.evV, AFr.get, AFr.box, AFr.put, AFr.setb, AV.val, callee, evArgs, aBin, aUn, oneCell, cellsOf, Value.cells, evParts, evElems, evAll, fillP, zeros, RetK, resAll, resOf, tupleOf, bnd, intOf?, AFr.keep, RefT.cells, undef, Nat.reduceBEq, Nat.reduceAdd, Nat.reduceMul, Nat.reduceLeDiff, Nat.reduceEqDiff, reduceCtorEq, Int.reduceEq, Int.reduceLT, Int.reduceLE, Int.reduceAdd, Int.reduceSub]
    refine h1 hl N' _ ⟨⟨_, Array.getElem?_setIfInBounds_self_of_lt hb2, ho2.step (Mv.set _ (by simp))⟩, hout⟩ ?_
    exact (hm.any (N ++ [hb])).trans ((hm2.post [hb]).trans (Mv.set _ (by simp)))

theorem c93 {D0 N σ hb H} {r : RefT} (hh : HeapIs D0 N σ hb H) (hD : ∀ b ∈ D0, b < σ.size) (hH : H.length ≤ 20000) {R : Value → AHeap → Prop}
    (h0 : rd H r = none → ∀ σ', Mv [] σ [] σ' → R (.tuple #[.agg #[.bool false, .slice none 0 0, .slice none 0 0], .int .i64 71]) σ')
    (h1 : ∀ x, rd H r = some x → ∀ ve vk N1 N2 σ', NodeO (N ++ hb :: D0) N1 N2 σ' ve vk x → Mv [] σ (N1 ++ N2) σ' → R (.tuple #[.agg #[.bool x.leaf, ve, vk], .int .i64 0]) σ') :
    C A 93 [.pointer (some ⟨hb, 0, none⟩), .agg #[.int .u64 r.key, .int .i64 r.seg, .int .i64 r.off, .int .i64 r.len]] σ R := by
  refine C_fn s93 (hA.at rfl) ?_
  have hlt := hh.lt
  obtain ⟨⟨v, hc, ho⟩, hout⟩ := hh
  obtain ⟨b, c, rfl⟩ := ho.shape
  have hDN : ∀ b ∈ N ++ hb :: D0, b < σ.size := lt_app ho.lt (fun b hb => by
    rcases List.mem_cons.1 hb with rfl | hb
    · exact hlt
    · exact hD _ hb) (Nat.le_refl _)
  have hw : IntKind.u64.wrap (H.length : Int) = (H.length : Int) := wrap_u (by omega)
  by_cases a1 : r.key < 1
  · simp only [s93, sx, argsFr, Sq, SI.wanted, AFr.ev, AFr.evV, AFr.get, AFr.box, AFr.put, AFr.setb, AV.val, callee, evArgs, aBin, aUn, oneCell, cellsOf, Value.cells, evParts, evElems, evAll, fillP, zeros, RetK, resAll, resOf, tupleOf, bnd, intOf?, AFr.keep, RefT.cells, undef, Nat.reduceBEq, Nat.reduceAdd, Nat.reduceMul, Nat.reduceLeDiff, Nat.reduceEqDiff, reduceCtorEq, Int.reduceEq, Int.reduceLT, Int.reduceLE, Int.reduceAdd, Int.reduceSub, hc, hw, a1]
    exact ⟨rfl, h0 (by unfold rd; rw [if_neg]; omega) _ (Mv.refl _ _)⟩
  · by_cases a2 : r.key > H.length
    · simp only [s93, sx, argsFr, Sq, SI.wanted, AFr.ev, AFr.evV, AFr.get, AFr.box, AFr.put, AFr.setb, AV.val, callee, evArgs, aBin, aUn, oneCell, cellsOf, Value.cells, evParts, evElems, evAll, fillP, zeros, RetK, resAll, resOf, tupleOf, bnd, intOf?, AFr.keep, RefT.cells, undef, Nat.reduceBEq, Nat.reduceAdd, Nat.reduceMul, Nat.reduceLeDiff, Nat.reduceEqDiff, reduceCtorEq, Int.reduceEq, Int.reduceLT, Int.reduceLE, Int.reduceAdd, Int.reduceSub, hc, hw, a1, a2]
      exact ⟨rfl, h0 (by unfold rd; rw [if_neg]; omega) _ (Mv.refl _ _)⟩
    · obtain ⟨n, hn⟩ : ∃ n : Nat, r.key = ((n + 1 : Nat) : Int) := ⟨(r.key - 1).toNat, by omega⟩
      have hnl : n < H.length := by omega
      have e1 : IntKind.i64.wrap (IntKind.i64.wrap r.key - 1) = (n : Int) := by
        rw [hn, wrap_n (by omega), show (((n + 1 : Nat) : Int) - 1) = (n : Int) by omega, wrap_n (by omega)]
      have e2 : IntKind.u64.wrap (r.key - 1) = (n : Int) := by
        rw [hn, show (((n + 1 : Nat) : Int) - 1) = (n : Int) by omega, wrap_u (by omega)]
      have e3 : (r.key - 1).toNat = n := by omega
      simp only [s93, sx, argsFr, Sq, SI.wanted, AFr.ev, AFr.evV, AFr.get, AFr.box, AFr.put, AFr.setb, AV.val, callee, evArgs, aBin, aUn, oneCell, cellsOf, Value.cells, evParts, evElems, evAll, fillP, zeros, RetK, resAll, resOf, tupleOf, bnd, intOf?, AFr.keep, RefT.cells, undef, Nat.reduceBEq, Nat.reduceAdd, Nat.reduceMul, Nat.reduceLeDiff, Nat.reduceEqDiff, reduceCtorEq, Int.reduceEq, Int.reduceLT, Int.reduceLE, Int.reduceAdd, Int.reduceSub, hc, hw, a1, a2, e1]
      refine Or.inl (c120 hA (by omega) ?_)
      simp only [sx, argsFr, Sq, SI.wanted, AFr.ev, AFr.evV, AFr.get, AFr.box, AFr.put, AFr.setb, AV.val, callee, evArgs, aBin, aUn, oneCell, cellsOf, Value.cells, evParts, evElems, evAll, fillP, zeros, RetK, resAll, resOf, tupleOf, bnd, intOf?, AFr.keep, RefT.cells, undef, Nat.reduceBEq, Nat.reduceAdd, Nat.reduceMul, Nat.reduceLeDiff, Nat.reduceEqDiff, reduceCtorEq, Int.reduceEq, Int.reduceLT, Int.reduceLE, Int.reduceAdd, Int.reduceSub]
      refine Be_ref hA (refN n) r (.inr rfl) ?_
      by_cases a3 : refN n = r
      · simp only [sx, argsFr, Sq, SI.wanted, AFr.ev, AFr.evV, AFr.get, AFr.box, AFr.put, AFr.setb, AV.val, callee, evArgs, aBin, aUn, oneCell, cellsOf, Value.cells, evParts, evElems, evAll, fillP, zeros, RetK, resAll, resOf, tupleOf, bnd, intOf?, AFr.keep, RefT.cells, undef, Nat.reduceBEq, Nat.reduceAdd, Nat.reduceMul, Nat.reduceLeDiff, Nat.reduceEqDiff, reduceCtorEq, Int.reduceEq, Int.reduceLT, Int.reduceLE, Int.reduceAdd, Int.reduceSub, a3, hc, e2]
        obtain ⟨b1, cs, cells, rfl, rfl, hb, hcut, ve, vk, hx, hxe, hxk⟩ := ho.atN (j := 3) rfl (List.getElem?_eq_getElem hnl)
        subst hx
        have hrd : rd H r = some H[n] := by
          unfold rd
          rw [e3, if_pos ⟨by omega, by omega, a3⟩, List.getElem?_eq_getElem hnl]
        simp only [sx, argsFr, Sq, SI.wanted, AFr.ev, AFr.evV, AFr.get, AFr.box, AFr.put, AFr.setb, AV.val, callee, evArgs, aBin, aUn, oneCell, cellsOf, Value.cells, evParts, evElems, evAll, fillP, zeros, RetK, resAll, resOf, tupleOf, bnd, intOf?, AFr.keep, RefT.cells, undef, Nat.reduceBEq, Nat.reduceAdd, Nat.reduceMul, Nat.reduceLeDiff, Nat.reduceEqDiff, reduceCtorEq, Int.reduceEq, Int.reduceLT, Int.reduceLE, Int.reduceAdd, Int.reduceSub, hnl, hb, hcut]
        refine ⟨rfl, Or.inl (c99 hA hxe hxk hDN (fun ve' vk' N1 N2 σ1 hn1 hm => ?_))⟩
        obtain ⟨b3, c3, rfl⟩ := hn1.es.shape
        obtain ⟨b4, c4, rfl⟩ := hn1.ks.shape
        simp only [sx, argsFr, Sq, SI.wanted, AFr.ev, AFr.evV, AFr.get, AFr.box, AFr.put, AFr.setb, AV.val, callee, evArgs, aBin, aUn, oneCell, cellsOf, Value.cells, evParts, evElems, evAll, fillP, zeros, RetK, resAll, resOf, tupleOf, bnd, intOf?, AFr.keep, RefT.cells, undef, Nat.reduceBEq, Nat.reduceAdd, Nat.reduceMul, Nat.reduceLeDiff, Nat.reduceEqDiff, reduceCtorEq, Int.reduceEq, Int.reduceLT, Int.reduceLE, Int.reduceAdd, Int.reduceSub]
        exact ⟨rfl, h1 _ hrd _ _ N1 N2 σ1 hn1 hm⟩
      · simp only [sx, argsFr, Sq, SI.wanted, AFr.ev, AFr.evV, AFr.get, AFr.box, AFr.put, AFr.setb, AV.val, callee, evArgs, aBin, aUn, oneCell, cellsOf, Value.cells, evParts, evElems, evAll, fillP, zeros, RetK, resAll, resOf, tupleOf, bnd, intOf?, AFr.keep, RefT.cells, undef, Nat.reduceBEq, Nat.reduceAdd, Nat.reduceMul, Nat.reduceLeDiff, Nat.reduceEqDiff, reduceCtorEq, Int.reduceEq, Int.reduceLT, Int.reduceLE, Int.reduceAdd, Int.reduceSub, a3]
        exact ⟨rfl, h0 (by unfold rd; rw [if_neg]; rw [e3]; exact fun h => a3 h.2.2) _ (Mv.refl _ _)⟩
end
end Go.Proofs.Ytbldkkabkijpgaa

namespace Go.Proofs.Ytbldkkabkijpgaa
open Go.Am

set_option linter.unusedSimpArgs false
section
variable {A : AProg} (hA : Prg A)
include hA

/-- Pages of any kind: what stands in the heap for a state, and what reading and writing do. -/
structure Store (A : AProg) (S : Type) where
  ti : Nat
  pv : Value
  fr : Nat
  fw : Nat
  hr : List.lookup ti [(24, 93)] = some fr
  hw : List.lookup ti [(24, 160)] = some fw
  is : List Nat → List Nat → AHeap → S → Prop
  rd : S → RefT → Except Int NodeT × S
  wr : S → NodeT → Except Int RefT × S
  lt : ∀ {D0 N σ s}, is D0 N σ s → ∀ b ∈ N, b < σ.size
  out : ∀ {D0 N σ s}, is D0 N σ s → ∀ b ∈ N, b ∉ D0
  step : ∀ {D0 N σ s D0' σ'}, is D0 N σ s → Mv D0 σ D0' σ' → is D0' N σ' s
  read : ∀ {D0 N σ s} {r : RefT} {R : Value → AHeap → Prop}, is D0 N σ s → (∀ b ∈ D0, b < σ.size) →
    (∀ e s' N' σ', rd s r = (.error e, s') → e ≠ 0 → is D0 N' σ' s' → Mv N σ N' σ' → R (.tuple #[.agg #[.bool false, .slice none 0 0, .slice none 0 0], .int .i64 e]) σ') →
    (∀ x s' ve vk N1 N2 N' σ', rd s r = (.ok x, s') → is (N1 ++ N2 ++ D0) N' σ' s' → NodeO (N' ++ D0) N1 N2 σ' ve vk x → Mv N σ (N1 ++ N2 ++ N') σ' → R (.tuple #[.agg #[.bool x.leaf, ve, vk], .int .i64 0]) σ') →
    C A fr [pv, .agg #[.int .u64 r.key, .int .i64 r.seg, .int .i64 r.off, .int .i64 r.len]] σ R
  write : ∀ {D0 N σ s ve vk} {x : NodeT} {R : Value → AHeap → Prop}, is D0 N σ s → SlR entK (N ++ D0) σ ve x.es → SlR kidK (N ++ D0) σ vk x.ks → (∀ b ∈ D0, b < σ.size) →
    (∀ e s' N' σ', wr s x = (.error e, s') → e ≠ 0 → is D0 N' σ' s' → Mv N σ N' σ' → R (.tuple #[.agg #[.int .u64 0, .int .i64 0, .int .i64 0, .int .i64 0], .int .i64 e]) σ') →
    (∀ r s' N' σ', wr s x = (.ok r, s') → is D0 N' σ' s' → Mv N σ N' σ' → R (.tuple #[.agg #[.int .u64 r.key, .int .i64 r.seg, .int .i64 r.off, .int .i64 r.len], .int .i64 0]) σ') →
    C A fw [pv, .agg #[.bool x.leaf, ve, vk]] σ R

/-- Pages in memory. -/
def heapStore (hb : Nat) : Store A (List NodeT) where
  ti := 24
  pv := .pointer (some ⟨hb, 0, none⟩)
  fr := 93
  fw := 160
  hr := rfl
  hw := rfl
  is D0 N σ H := ∃ N0, N = N0 ++ [hb] ∧ HeapIs D0 N0 σ hb H ∧ H.length ≤ 20000
  rd H r := (match rd H r with | none => .error 71 | some x => .ok x, H)
  wr H x := if 20000 ≤ H.length then (.error 2, H) else (.ok (refN H.length), H ++ [x])
  lt := by
    rintro D0 N σ H ⟨N0, rfl, h, _⟩ b hb
    rcases List.mem_append.1 hb with hb | hb
    · exact h.cell.choose_spec.2.lt b hb
    · simp at hb; subst hb; exact h.lt
  out := by
    rintro D0 N σ H ⟨N0, rfl, h, _⟩ b hb
    rcases List.mem_append.1 hb with hb | hb
    · exact fun hd => h.cell.choose_spec.2.out b hb (by simp [hd])
    · simp at hb; subst hb; exact h.out
  step := by
    rintro D0 N σ H D0' σ' ⟨N0, rfl, h, h'⟩ hm
    exact ⟨N0, rfl, h.step hm, h'⟩
  read := by
    rintro D0 N σ H r R ⟨N0, rfl, h, hH⟩ hD h0 h1
    refine c93 hA h hD hH (fun hr σ' hm => ?_) (fun x hr ve vk N1 N2 σ' hn hm => ?_)
    · exact h0 71 H _ σ' (by simp [hr]) (by decide) ⟨N0, rfl, h.step (hm.any _), hH⟩ (hm.any _)
    · refine h1 x H ve vk N1 N2 (N0 ++ [hb]) σ' (by simp [hr]) ⟨N0, rfl, h.step ?_, hH⟩ (by simpa using hn) ?_
      · exact hm.mono (by simp) fun b hb => by simpa [or_assoc] using hb
      · exact hm.mono (by simp) fun b hb => by simpa [or_assoc] using hb
  write := by
    rintro D0 N σ H ve vk x R ⟨N0, rfl, h, hH⟩ he hk hD h0 h1
    refine c160 hA h (by simpa using he) (by simpa using hk) hD (fun hl => ?_) (fun hl N' σ' h' hm => ?_)
    · exact h0 2 H _ σ (by simp [hl]) (by decide) ⟨N0, rfl, h, hH⟩ (Mv.refl _ _)
    · exact h1 _ _ (N' ++ [hb]) σ' (by simp [Nat.not_le.2 hl]) ⟨N', rfl, h', by simp; omega⟩ hm

variable {S : Type} (P : Store A S)

/-- A node of a page so deep. -/
def atP (s : S) (r : RefT) (deep : Nat) : Except Int NodeT × S :=
  if 8 < deep then (.error 70, s) else
  match P.rd s r with
  | (.error e, s') => (.error e, s')
  | (.ok x, s') => (if x.leaf = false ∧ x.ks = [] then .error 70 else .ok x, s')

theorem c83 {D0 N σ s} {r : RefT} {deep : Nat} (hh : P.is D0 N σ s) (hD : ∀ b ∈ D0, b < σ.size) {R : Value → AHeap → Prop}
    (h0 : ∀ e s' N' σ', atP P s r deep = (.error e, s') → e ≠ 0 → P.is D0 N' σ' s' → Mv N σ N' σ' → R (.tuple #[.agg #[.bool false, .slice none 0 0, .slice none 0 0], .int .i64 e]) σ')
    (h1 : ∀ x s' ve vk N1 N2 N' σ', atP P s r deep = (.ok x, s') → P.is (N1 ++ N2 ++ D0) N' σ' s' → NodeO (N' ++ D0) N1 N2 σ' ve vk x → Mv N σ (N1 ++ N2 ++ N') σ' → R (.tuple #[.agg #[.bool x.leaf, ve, vk], .int .i64 0]) σ') :
    C A 83 [.agg #[.iface P.ti P.pv], .agg #[.int .u64 r.key, .int .i64 r.seg, .int .i64 r.off, .int .i64 r.len], .int .i64 deep] σ R := by
  refine C_fn s83 (hA.at rfl) ?_
  by_cases a1 : 8 < deep
  · have a1' : (deep : Int) > 8 := by omega
    simp only [s83, sx, argsFr, Sq, SI.wanted, AFr.ev, AFr.evV, AFr.get, AFr.box, AFr.put, AFr.setb, AV.val, callee, evArgs, aBin, aUn, oneCell, cellsOf, Value.cells, evParts, evElems, evAll, fillP, zeros, RetK, resAll, resOf, tupleOf, bnd, intOf?, AFr.keep, RefT.cells, undef, Nat.reduceBEq, Nat.reduceAdd, Nat.reduceMul, Nat.reduceLeDiff, Nat.reduceEqDiff, reduceCtorEq, Int.reduceEq, Int.reduceLT, Int.reduceLE, Int.reduceAdd, Int.reduceSub, a1']
    exact h0 70 s _ σ (by simp [atP, a1]) (by decide) hh (Mv.refl _ _)
  · have a1' : ¬ (deep : Int) > 8 := by omega
    simp only [s83, sx, argsFr, Sq, SI.wanted, AFr.ev, AFr.evV, AFr.get, AFr.box, AFr.put, AFr.setb, AV.val, callee, evArgs, aBin, aUn, oneCell, cellsOf, Value.cells, evParts, evElems, evAll, fillP, zeros, RetK, resAll, resOf, tupleOf, bnd, intOf?, AFr.keep, RefT.cells, undef, Nat.reduceBEq, Nat.reduceAdd, Nat.reduceMul, Nat.reduceLeDiff, Nat.reduceEqDiff, reduceCtorEq, Int.reduceEq, Int.reduceLT, Int.reduceLE, Int.reduceAdd, Int.reduceSub, a1', P.hr]
    refine Or.inl (P.read hh hD (fun e s' N' σ1 hr he hi hm => ?_) (fun x s' ve vk N1 N2 N' σ1 hr hi hn hm => ?_))
    · simp only [sx, argsFr, Sq, SI.wanted, AFr.ev, AFr.evV, AFr.get, AFr.box, AFr.put, AFr.setb, AV.val, callee, evArgs, aBin, aUn, oneCell, cellsOf, Value.cells, evParts, evElems, evAll, fillP, zeros, RetK, resAll, resOf, tupleOf, bnd, intOf?, AFr.keep, RefT.cells, undef, Nat.reduceBEq, Nat.reduceAdd, Nat.reduceMul, Nat.reduceLeDiff, Nat.reduceEqDiff, reduceCtorEq, Int.reduceEq, Int.reduceLT, Int.reduceLE, Int.reduceAdd, Int.reduceSub, he]
      exact h0 e s' N' σ1 (by simp [atP, a1, hr]) he hi hm
    · obtain ⟨b3, c3, rfl⟩ := hn.es.shape
      obtain ⟨b4, c4, rfl⟩ := hn.ks.shape
      simp only [sx, argsFr, Sq, SI.wanted, AFr.ev, AFr.evV, AFr.get, AFr.box, AFr.put, AFr.setb, AV.val, callee, evArgs, aBin, aUn, oneCell, cellsOf, Value.cells, evParts, evElems, evAll, fillP, zeros, RetK, resAll, resOf, tupleOf, bnd, intOf?, AFr.keep, RefT.cells, undef, Nat.reduceBEq, Nat.reduceAdd, Nat.reduceMul, Nat.reduceLeDiff, Nat.reduceEqDiff, reduceCtorEq, Int.reduceEq, Int.reduceLT, Int.reduceLE, Int.reduceAdd, Int.reduceSub]
      cases hl : x.leaf with
      | true =>
        simp only [sx, argsFr, Sq, SI.wanted, AFr.ev, AFr.evV, AFr.get, AFr.box, AFr.put, AFr.setb, AV.val, callee, evArgs, aBin, aUn, oneCell, cellsOf, Value.cells, evParts, evElems, evAll, fillP, zeros, RetK, resAll, resOf, tupleOf, bnd, intOf?, AFr.keep, RefT.cells, undef, Nat.reduceBEq, Nat.reduceAdd, Nat.reduceMul, Nat.reduceLeDiff, Nat.reduceEqDiff, reduceCtorEq, Int.reduceEq, Int.reduceLT, Int.reduceLE, Int.reduceAdd, Int.reduceSub]
        have := h1 x s' _ _ N1 N2 N' σ1 (by simp [atP, a1, hr, hl]) hi hn hm
        rw [hl] at this
        exact this
      | false =>
        simp only [sx, argsFr, Sq, SI.wanted, AFr.ev, AFr.evV, AFr.get, AFr.box, AFr.put, AFr.setb, AV.val, callee, evArgs, aBin, aUn, oneCell, cellsOf, Value.cells, evParts, evElems, evAll, fillP, zeros, RetK, resAll, resOf, tupleOf, bnd, intOf?, AFr.keep, RefT.cells, undef, Nat.reduceBEq, Nat.reduceAdd, Nat.reduceMul, Nat.reduceLeDiff, Nat.reduceEqDiff, reduceCtorEq, Int.reduceEq, Int.reduceLT, Int.reduceLE, Int.reduceAdd, Int.reduceSub]
        refine Cd_split (fun ht => ?_) (fun ht => ?_)
        · simp only [sx, argsFr, Sq, SI.wanted, AFr.ev, AFr.evV, AFr.get, AFr.box, AFr.put, AFr.setb, AV.val, callee, evArgs, aBin, aUn, oneCell, cellsOf, Value.cells, evParts, evElems, evAll, fillP, zeros, RetK, resAll, resOf, tupleOf, bnd, intOf?, AFr.keep, RefT.cells, undef, Nat.reduceBEq, Nat.reduceAdd, Nat.reduceMul, Nat.reduceLeDiff, Nat.reduceEqDiff, reduceCtorEq, Int.reduceEq, Int.reduceLT, Int.reduceLE, Int.reduceAdd, Int.reduceSub]
          have hk0 : x.ks = [] := by simpa using ht
          exact h0 70 s' N' σ1 (by simp [atP, a1, hr, hl, hk0]) (by decide) (P.step hi ⟨Nat.le_refl _, fun _ _ _ => rfl, fun b _ hb => by simp [hb]⟩) ⟨hm.size, hm.keep, fun b hb h => hm.old b hb (by simp [h])⟩
        · simp only [sx, argsFr, Sq, SI.wanted, AFr.ev, AFr.evV, AFr.get, AFr.box, AFr.put, AFr.setb, AV.val, callee, evArgs, aBin, aUn, oneCell, cellsOf, Value.cells, evParts, evElems, evAll, fillP, zeros, RetK, resAll, resOf, tupleOf, bnd, intOf?, AFr.keep, RefT.cells, undef, Nat.reduceBEq, Nat.reduceAdd, Nat.reduceMul, Nat.reduceLeDiff, Nat.reduceEqDiff, reduceCtorEq, Int.reduceEq, Int.reduceLT, Int.reduceLE, Int.reduceAdd, Int.reduceSub]
          have hk0 : x.ks ≠ [] := by simpa using ht
          have := h1 x s' _ _ N1 N2 N' σ1 (by simp [atP, a1, hr, hl, hk0]) hi hn hm
          rw [hl] at this
          exact this

theorem c96 {D σ ve vk} {x : NodeT} (he : SlR entK D σ ve x.es) (hk : SlR kidK D σ vk x.ks) {R : Value → AHeap → Prop} (hR : R (.int .i64 (sizeP x)) σ) : C A 96 [.agg #[.bool x.leaf, ve, vk]] σ R := by
  refine C_fn s96 (hA.at rfl) ?_
  obtain ⟨b3, c3, rfl⟩ := he.shape
  obtain ⟨b4, c4, rfl⟩ := hk.shape
  unfold sizeP at hR
  simp only [s96, sx, argsFr, Sq, SI.wanted, AFr.ev, AFr.evV, AFr.get, AFr.box, AFr.put, AFr.setb, AV.val, callee, evArgs, aBin, aUn, oneCell, cellsOf, Value.cells, evParts, evElems, evAll, fillP, zeros, RetK, resAll, resOf, tupleOf, bnd, intOf?, AFr.keep, RefT.cells, undef, Nat.reduceBEq, Nat.reduceAdd, Nat.reduceMul, Nat.reduceLeDiff, Nat.reduceEqDiff, reduceCtorEq, Int.reduceEq, Int.reduceLT, Int.reduceLE, Int.reduceAdd, Int.reduceSub]
  refine Cd_split (fun ht => ?_) (fun ht => ?_)
  · simp only [sx, argsFr, Sq, SI.wanted, AFr.ev, AFr.evV, AFr.get, AFr.box, AFr.put, AFr.setb, AV.val, callee, evArgs, aBin, aUn, oneCell, cellsOf, Value.cells, evParts, evElems, evAll, fillP, zeros, RetK, resAll, resOf, tupleOf, bnd, intOf?, AFr.keep, RefT.cells, undef, Nat.reduceBEq, Nat.reduceAdd, Nat.reduceMul, Nat.reduceLeDiff, Nat.reduceEqDiff, reduceCtorEq, Int.reduceEq, Int.reduceLT, Int.reduceLE, Int.reduceAdd, Int.reduceSub]
    simpa [ht] using hR
  · simp only [sx, argsFr, Sq, SI.wanted, AFr.ev, AFr.evV, AFr.get, AFr.box, AFr.put, AFr.setb, AV.val, callee, evArgs, aBin, aUn, oneCell, cellsOf, Value.cells, evParts, evElems, evAll, fillP, zeros, RetK, resAll, resOf, tupleOf, bnd, intOf?, AFr.keep, RefT.cells, undef, Nat.reduceBEq, Nat.reduceAdd, Nat.reduceMul, Nat.reduceLeDiff, Nat.reduceEqDiff, reduceCtorEq, Int.reduceEq, Int.reduceLT, Int.reduceLE, Int.reduceAdd, Int.reduceSub]
    simpa [ht] using hR

theorem c98 {D σ ve vk} {x : NodeT} (he : SlR entK D σ ve x.es) (hk : SlR kidK D σ vk x.ks) {R : Value → AHeap → Prop} (hR : R (.string (lowP x)) σ) : C A 98 [.agg #[.bool x.leaf, ve, vk]] σ R := by
  refine C_fn s98 (hA.at rfl) ?_
  obtain ⟨b3, c3, rfl⟩ := he.shape
  obtain ⟨b4, c4, rfl⟩ := hk.shape
  unfold lowP at hR
  cases hl : x.leaf with
  | true =>
    rw [hl] at hR
    by_cases hz : (x.es.length : Int) > 0
    · obtain ⟨e0, l0, hx⟩ : ∃ e0 l0, x.es = e0 :: l0 := List.exists_cons_of_length_pos (by omega)
      obtain ⟨b, off, cs, e, m, cells, rfl, hb, ⟨u, rfl, hu⟩, hc1, hcN⟩ := he.atE (j := 2) (i := 0) (x := e0) rfl (by rw [hx]; rfl)
      have h1 := hc1 0 _ rfl
      simp only [Nat.zero_mul, Nat.add_zero] at h1
      have hz' : (0 : Int) < (x.es.length : Int) := hz
      simp only [s98, sx, argsFr, Sq, SI.wanted, AFr.ev, AFr.evV, AFr.get, AFr.box, AFr.put, AFr.setb, AV.val, callee, evArgs, aBin, aUn, oneCell, cellsOf, Value.cells, evParts, evElems, evAll, fillP, zeros, RetK, resAll, resOf, tupleOf, bnd, intOf?, AFr.keep, RefT.cells, undef, Nat.reduceBEq, Nat.reduceAdd, Nat.reduceMul, Nat.reduceLeDiff, Nat.reduceEqDiff, reduceCtorEq, Int.reduceEq, Int.reduceLT, Int.reduceLE, Int.reduceAdd, Int.reduceSub, hz, hz', hb, h1]
      rw [hx] at hR
      exact hR
    · have hx : x.es = [] := List.eq_nil_of_length_eq_zero (by omega)
      simp only [s98, sx, argsFr, Sq, SI.wanted, AFr.ev, AFr.evV, AFr.get, AFr.box, AFr.put, AFr.setb, AV.val, callee, evArgs, aBin, aUn, oneCell, cellsOf, Value.cells, evParts, evElems, evAll, fillP, zeros, RetK, resAll, resOf, tupleOf, bnd, intOf?, AFr.keep, RefT.cells, undef, Nat.reduceBEq, Nat.reduceAdd, Nat.reduceMul, Nat.reduceLeDiff, Nat.reduceEqDiff, reduceCtorEq, Int.reduceEq, Int.reduceLT, Int.reduceLE, Int.reduceAdd, Int.reduceSub, hz]
      rw [hx] at hR
      exact hR
  | false =>
    rw [hl] at hR
    by_cases hz : (x.ks.length : Int) > 0
    · obtain ⟨e0, l0, hx⟩ : ∃ e0 l0, x.ks = e0 :: l0 := List.exists_cons_of_length_pos (by omega)
      obtain ⟨b, off, cs, e, m, cells, rfl, hb, rfl, hc1, hcN⟩ := hk.atE (j := 5) (i := 0) (x := e0) rfl (by rw [hx]; rfl)
      have h1 := hc1 0 _ rfl
      simp only [Nat.zero_mul, Nat.add_zero] at h1
      have hz' : (0 : Int) < (x.ks.length : Int) := hz
      simp only [s98, sx, argsFr, Sq, SI.wanted, AFr.ev, AFr.evV, AFr.get, AFr.box, AFr.put, AFr.setb, AV.val, callee, evArgs, aBin, aUn, oneCell, cellsOf, Value.cells, evParts, evElems, evAll, fillP, zeros, RetK, resAll, resOf, tupleOf, bnd, intOf?, AFr.keep, RefT.cells, undef, Nat.reduceBEq, Nat.reduceAdd, Nat.reduceMul, Nat.reduceLeDiff, Nat.reduceEqDiff, reduceCtorEq, Int.reduceEq, Int.reduceLT, Int.reduceLE, Int.reduceAdd, Int.reduceSub, hz, hz', hb, h1]
      rw [hx] at hR
      exact hR
    · have hx : x.ks = [] := List.eq_nil_of_length_eq_zero (by omega)
      simp only [s98, sx, argsFr, Sq, SI.wanted, AFr.ev, AFr.evV, AFr.get, AFr.box, AFr.put, AFr.setb, AV.val, callee, evArgs, aBin, aUn, oneCell, cellsOf, Value.cells, evParts, evElems, evAll, fillP, zeros, RetK, resAll, resOf, tupleOf, bnd, intOf?, AFr.keep, RefT.cells, undef, Nat.reduceBEq, Nat.reduceAdd, Nat.reduceMul, Nat.reduceLeDiff, Nat.reduceEqDiff, reduceCtorEq, Int.reduceEq, Int.reduceLT, Int.reduceLE, Int.reduceAdd, Int.reduceSub, hz]
      rw [hx] at hR
      exact hR
end
end Go.Proofs.Ytbldkkabkijpgaa

namespace Go.Proofs.Ytbldkkabkijpgaa
open Go.Am

set_option linter.unusedSimpArgs false
section
variable {A : AProg} (hA : Prg A)
include hA
variable {S : Type} (P : Store A S)

/-- Parts laid down behind others. -/
def layA (s : S) (acc : List KidT) : List NodeT → Except Int (List KidT) × S
  | [] => (.ok acc, s)
  | x :: l =>
    match P.wr s x with
    | (.error e, s') => (.error e, s')
    | (.ok r, s') => layA s' (acc ++ [⟨lowP x, r⟩]) l

theorem c57 {D0 N σ s v} {l : List NodeT} (hh : P.is D0 N σ s) (hl : SlR nodeK (N ++ D0) σ v l) (hn : l.length ≤ 1000) (hD : ∀ b ∈ D0, b < σ.size) {R : Value → AHeap → Prop}
    (h0 : ∀ e s' N' σ', layA P s [] l = (.error e, s') → e ≠ 0 → P.is D0 N' σ' s' → Mv N σ N' σ' → R (.tuple #[.slice none 0 0, .int .i64 e]) σ')
    (h1 : ∀ ks s' v' Nk N' σ', layA P s [] l = (.ok ks, s') → P.is (Nk ++ D0) N' σ' s' → Own kidK (N' ++ D0) σ' Nk v' ks → Mv N σ (Nk ++ N') σ' → R (.tuple #[v', .int .i64 0]) σ') :
    C A 57 [.agg #[.iface P.ti P.pv], v] σ R := by
  refine C_fn s57 (hA.at rfl) ?_
  obtain ⟨base, c, rfl⟩ := hl.shape
  simp only [s57, sx, argsFr, Sq, SI.wanted, AFr.ev, AFr.evV, AFr.get, AFr.box, AFr.put, AFr.setb, AV.val, callee, evArgs, aBin, aUn, oneCell, cellsOf, Value.cells, evParts, evElems, evAll, fillP, zeros, RetK, resAll, resOf, tupleOf, bnd, intOf?, AFr.keep, RefT.cells, undef, Nat.reduceBEq, Nat.reduceAdd, Nat.reduceMul, Nat.reduceLeDiff, Nat.reduceEqDiff, reduceCtorEq, Int.reduceEq, Int.reduceLT, Int.reduceLE, Int.reduceAdd, Int.reduceSub]
  refine Lp_ind (fun i => l.length - i) (fun i f σ1 => ∃ v acc s1 Nk N', f.keep [2, 6, 11, 12, 13] [2] = some ⟨[(2, .l 2 0), (6, .v v), (11, .v (.slice base l.length c)), (12, .v (.int .i64 l.length)), (13, .v (.int .i64 i))], [(2, [.iface P.ti P.pv])]⟩ ∧
    i ≤ l.length ∧ acc.length = i ∧ Own kidK (N' ++ D0) σ1 Nk v acc ∧ P.is (Nk ++ D0) N' σ1 s1 ∧ Mv N σ (Nk ++ N') σ1 ∧ layA P s [] l = layA P s1 acc (l.drop i)) ?_ 0 _ _ ⟨_, [], s, [], N, rfl, Nat.zero_le _, rfl, .nil, hh, Mv.refl _ _, rfl⟩
  rintro i f σ1 ⟨v, acc, s1, Nk, N', hkp, hi, hac, ho, his, hm, hla⟩ ih
  obtain ⟨bv, cv, rfl⟩ := ho.shape
  rw [St_seq, St_keep hkp]
  simp only [sx, argsFr, Sq, SI.wanted, AFr.ev, AFr.evV, AFr.get, AFr.box, AFr.put, AFr.setb, AV.val, callee, evArgs, aBin, aUn, oneCell, cellsOf, Value.cells, evParts, evElems, evAll, fillP, zeros, RetK, resAll, resOf, tupleOf, bnd, intOf?, AFr.keep, RefT.cells, undef, Nat.reduceBEq, Nat.reduceAdd, Nat.reduceMul, Nat.reduceLeDiff, Nat.reduceEqDiff, reduceCtorEq, Int.reduceEq, Int.reduceLT, Int.reduceLE, Int.reduceAdd, Int.reduceSub]
  refine Cd_split (fun ht => ?_) (fun ht => ?_)
  · have hi' : i < l.length := by simpa using ht
    have hl1 := hl.step (hm.mono (E := N ++ D0) (E' := N' ++ (Nk ++ D0)) (fun b hb => by simp [hb]) (fun b hb => by simp only [List.mem_append] at hb ⊢; grind))
    obtain ⟨b, off, cs, e, m, cells, rfl, hb, hcut, ve, vk, hx, hxe, hxk⟩ := hl1.atN (j := 3) rfl (List.getElem?_eq_getElem hi')
    subst hx
    obtain ⟨b3, c3, rfl⟩ := hxe.shape
    obtain ⟨b4, c4, rfl⟩ := hxk.shape
    rw [List.drop_eq_getElem_cons hi'] at hla
    simp only [sx, argsFr, Sq, SI.wanted, AFr.ev, AFr.evV, AFr.get, AFr.box, AFr.put, AFr.setb, AV.val, callee, evArgs, aBin, aUn, oneCell, cellsOf, Value.cells, evParts, evElems, evAll, fillP, zeros, RetK, resAll, resOf, tupleOf, bnd, intOf?, AFr.keep, RefT.cells, undef, Nat.reduceBEq, Nat.reduceAdd, Nat.reduceMul, Nat.reduceLeDiff, Nat.reduceEqDiff, reduceCtorEq, Int.reduceEq, Int.reduceLT, Int.reduceLE, Int.reduceAdd, Int.reduceSub, hb, hi', hcut, P.hw]
    refine Or.inl (P.write his hxe hxk (lt_app ho.lt hD hm.size) (fun e s' N2 σ2 hw he hi2 hm2 => ?_) (fun r s' N2 σ2 hw hi2 hm2 => ?_))
    · simp only [sx, argsFr, Sq, SI.wanted, AFr.ev, AFr.evV, AFr.get, AFr.box, AFr.put, AFr.setb, AV.val, callee, evArgs, aBin, aUn, oneCell, cellsOf, Value.cells, evParts, evElems, evAll, fillP, zeros, RetK, resAll, resOf, tupleOf, bnd, intOf?, AFr.keep, RefT.cells, undef, Nat.reduceBEq, Nat.reduceAdd, Nat.reduceMul, Nat.reduceLeDiff, Nat.reduceEqDiff, reduceCtorEq, Int.reduceEq, Int.reduceLT, Int.reduceLE, Int.reduceAdd, Int.reduceSub, he]
      refine h0 e s' N2 σ2 (by rw [hla, layA, hw]) he (P.step hi2 ⟨Nat.le_refl _, fun _ _ _ => rfl, fun b _ hb => by simp [hb]⟩) ?_
      exact hm.trans ((hm2.pre Nk).trans ⟨Nat.le_refl _, fun _ _ _ => rfl, fun b _ hb => by simp [hb]⟩)
    · simp only [sx, argsFr, Sq, SI.wanted, AFr.ev, AFr.evV, AFr.get, AFr.box, AFr.put, AFr.setb, AV.val, callee, evArgs, aBin, aUn, oneCell, cellsOf, Value.cells, evParts, evElems, evAll, fillP, zeros, RetK, resAll, resOf, tupleOf, bnd, intOf?, AFr.keep, RefT.cells, undef, Nat.reduceBEq, Nat.reduceAdd, Nat.reduceMul, Nat.reduceLeDiff, Nat.reduceEqDiff, reduceCtorEq, Int.reduceEq, Int.reduceLT, Int.reduceLE, Int.reduceAdd, Int.reduceSub]
      have hmv := hm2.post (Nk ++ D0)
      refine Or.inl (c98 hA (x := l[i]) (hxe.step hmv) (hxk.step hmv) ?_)
      simp only [sx, argsFr, Sq, SI.wanted, AFr.ev, AFr.evV, AFr.get, AFr.box, AFr.put, AFr.setb, AV.val, callee, evArgs, aBin, aUn, oneCell, cellsOf, Value.cells, evParts, evElems, evAll, fillP, zeros, RetK, resAll, resOf, tupleOf, bnd, intOf?, AFr.keep, RefT.cells, undef, Nat.reduceBEq, Nat.reduceAdd, Nat.reduceMul, Nat.reduceLeDiff, Nat.reduceEqDiff, reduceCtorEq, Int.reduceEq, Int.reduceLT, Int.reduceLE, Int.reduceAdd, Int.reduceSub]
      refine Sr_app (K := kidK) (D := N2 ++ D0) (N := Nk) (ys := [⟨lowP l[i], r⟩]) (new := [.string (lowP l[i]), .int .u64 r.key, .int .i64 r.seg, .int .i64 r.off, .int .i64 r.len])
        (by simp only [sx, argsFr, Sq, SI.wanted, AFr.ev, AFr.evV, AFr.get, AFr.box, AFr.put, AFr.setb, AV.val, callee, evArgs, aBin, aUn, oneCell, cellsOf, Value.cells, evParts, evElems, evAll, fillP, zeros, RetK, resAll, resOf, tupleOf, bnd, intOf?, AFr.keep, RefT.cells, undef, Nat.reduceBEq, Nat.reduceAdd, Nat.reduceMul, Nat.reduceLeDiff, Nat.reduceEqDiff, reduceCtorEq, Int.reduceEq, Int.reduceLT, Int.reduceLE, Int.reduceAdd, Int.reduceSub]) (ho.step (hm2.post D0)) rfl (by decide) (by simp [srcOf, AFr.ev, AFr.get, AFr.put, List.lookup]) rfl (Kd.list_one rfl)
        rfl (by unfold maxN; simp only [List.length_singleton]; omega) (fun v5 Nk' σ3 ho5 hm5 => ?_) (lt_app (fun b hb => P.lt hi2 b hb) hD (Nat.le_trans hm.size hm2.size))
      obtain ⟨b5, c5, rfl⟩ := ho5.shape
      simp only [sx, argsFr, Sq, SI.wanted, AFr.ev, AFr.evV, AFr.get, AFr.box, AFr.put, AFr.setb, AV.val, callee, evArgs, aBin, aUn, oneCell, cellsOf, Value.cells, evParts, evElems, evAll, fillP, zeros, RetK, resAll, resOf, tupleOf, bnd, intOf?, AFr.keep, RefT.cells, undef, Nat.reduceBEq, Nat.reduceAdd, Nat.reduceMul, Nat.reduceLeDiff, Nat.reduceEqDiff, reduceCtorEq, Int.reduceEq, Int.reduceLT, Int.reduceLE, Int.reduceAdd, Int.reduceSub]
      refine ⟨rfl, ih (i + 1) _ _ (by omega) ⟨.slice b5 (acc ++ [(⟨lowP l[i], r⟩ : KidT)]).length c5, acc ++ [(⟨lowP l[i], r⟩ : KidT)], s', Nk', N2, ?_, by omega, by simp [hac], ho5, P.step hi2 (hm5.post D0), ?_, ?_⟩⟩
      · simp only [sx, argsFr, Sq, SI.wanted, AFr.ev, AFr.evV, AFr.get, AFr.box, AFr.put, AFr.setb, AV.val, callee, evArgs, aBin, aUn, oneCell, cellsOf, Value.cells, evParts, evElems, evAll, fillP, zeros, RetK, resAll, resOf, tupleOf, bnd, intOf?, AFr.keep, RefT.cells, undef, Nat.reduceBEq, Nat.reduceAdd, Nat.reduceMul, Nat.reduceLeDiff, Nat.reduceEqDiff, reduceCtorEq, Int.reduceEq, Int.reduceLT, Int.reduceLE, Int.reduceAdd, Int.reduceSub, wrap_up (show i ≤ 1000000000000000 by omega)]
      · exact hm.trans ((hm2.pre Nk).trans (hm5.post N2))
      · rw [hla, layA, hw]
  · simp only [sx, argsFr, Sq, SI.wanted, AFr.ev, AFr.evV, AFr.get, AFr.box, AFr.put, AFr.setb, AV.val, callee, evArgs, aBin, aUn, oneCell, cellsOf, Value.cells, evParts, evElems, evAll, fillP, zeros, RetK, resAll, resOf, tupleOf, bnd, intOf?, AFr.keep, RefT.cells, undef, Nat.reduceBEq, Nat.reduceAdd, Nat.reduceMul, Nat.reduceLeDiff, Nat.reduceEqDiff, reduceCtorEq, Int.reduceEq, Int.reduceLT, Int.reduceLE, Int.reduceAdd, Int.reduceSub]
    have : i = l.length := by simp at ht; omega
    subst this
    rw [List.drop_length, layA] at hla
    exact h1 acc s1 _ Nk N' σ1 hla his ho hm
end
end Go.Proofs.Ytbldkkabkijpgaa

namespace Go.Proofs.Ytbldkkabkijpgaa
open Go.Am

/-- a stands behind b. -/
def gtB (a b : ByteArray) : Bool := !(Op.bytesLess a.toList b.toList || decide (a = b))

def belowGo (ks : List KidT) (name : ByteArray) : Nat → Nat
  | 0 => 0
  | i + 1 => match ks[i + 1]? with
    | some k => if gtB k.low name then belowGo ks name i else i + 1
    | none => 0

/-- The place of the kid below which a name belongs. -/
def belowP (ks : List KidT) (name : ByteArray) : Nat := belowGo ks name (ks.length - 1)

theorem belowGo_le (ks : List KidT) (name : ByteArray) : ∀ i, belowGo ks name i ≤ i
  | 0 => Nat.le_refl _
  | i + 1 => by
    unfold belowGo
    split
    · split
      · exact Nat.le_succ_of_le (belowGo_le ks name i)
      · exact Nat.le_refl _
    · omega

theorem belowP_lt {ks : List KidT} (name : ByteArray) (h : ks ≠ []) : belowP ks name < ks.length := by
  have := belowGo_le ks name (ks.length - 1)
  have := List.length_pos_iff.2 h
  unfold belowP
  omega

set_option linter.unusedSimpArgs false
section
variable {A : AProg} (hA : Prg A)
include hA

theorem c84 {D σ ve vk} {x : NodeT} {name : ByteArray} (he : SlR entK D σ ve x.es) (hk : SlR kidK D σ vk x.ks) (hne : x.ks ≠ []) {R : Value → AHeap → Prop} (hR : R (.int .i64 (belowP x.ks name)) σ) :
    C A 84 [.agg #[.bool x.leaf, ve, vk], .string name] σ R := by
  refine C_fn s84 (hA.at rfl) ?_
  obtain ⟨b3, c3, rfl⟩ := he.shape
  obtain ⟨b4, c4, rfl⟩ := hk.shape
  have hmx := hk.bound
  unfold maxN at hmx
  have hpos := List.length_pos_iff.2 hne
  have hw : IntKind.i64.wrap ((x.ks.length : Int) - 1) = ((x.ks.length - 1 : Nat) : Int) := by
    rw [wrap_in (by omega) (by omega)]
    omega
  simp only [s84, sx, argsFr, Sq, SI.wanted, AFr.ev, AFr.evV, AFr.get, AFr.box, AFr.put, AFr.setb, AV.val, callee, evArgs, aBin, aUn, oneCell, cellsOf, Value.cells, evParts, evElems, evAll, fillP, zeros, RetK, resAll, resOf, tupleOf, bnd, intOf?, AFr.keep, RefT.cells, undef, Nat.reduceBEq, Nat.reduceAdd, Nat.reduceMul, Nat.reduceLeDiff, Nat.reduceEqDiff, reduceCtorEq, Int.reduceEq, Int.reduceLT, Int.reduceLE, Int.reduceAdd, Int.reduceSub, hw]
  refine Lp_ind (fun i : Nat => i) (fun i f σ1 => σ1 = σ ∧ f.keep [1, 2, 5] [2] = some ⟨[(1, .v (.string name)), (2, .l 2 0), (5, .v (.int .i64 i))], [(2, [.bool x.leaf, .slice b3 x.es.length c3, .slice b4 x.ks.length c4])]⟩ ∧
    i < x.ks.length ∧ belowP x.ks name = belowGo x.ks name i) ?_ (x.ks.length - 1) _ _ ⟨rfl, rfl, by omega, rfl⟩
  rintro i f σ1 ⟨rfl, hkp, hi, hb⟩ ih
  rw [St_seq, St_keep hkp]
  cases i with
  | zero =>
    have hz : ¬ (((0 : Nat) : Int) > 0) := by decide
    simp only [sx, argsFr, Sq, SI.wanted, AFr.ev, AFr.evV, AFr.get, AFr.box, AFr.put, AFr.setb, AV.val, callee, evArgs, aBin, aUn, oneCell, cellsOf, Value.cells, evParts, evElems, evAll, fillP, zeros, RetK, resAll, resOf, tupleOf, bnd, intOf?, AFr.keep, RefT.cells, undef, Nat.reduceBEq, Nat.reduceAdd, Nat.reduceMul, Nat.reduceLeDiff, Nat.reduceEqDiff, reduceCtorEq, Int.reduceEq, Int.reduceLT, Int.reduceLE, Int.reduceAdd, Int.reduceSub, hz]
    rw [hb] at hR
    exact hR
  | succ i =>
    have hz : (((i + 1 : Nat) : Int) > 0) := by omega
    obtain ⟨b, off, cs, e, m, cells, rfl, hbb, rfl, hc1, hcN⟩ := hk.atE (j := 5) (i := i + 1) rfl (List.getElem?_eq_getElem hi)
    have h1 := hc1 0 _ rfl
    simp only [Nat.add_zero] at h1
    simp only [sx, argsFr, Sq, SI.wanted, AFr.ev, AFr.evV, AFr.get, AFr.box, AFr.put, AFr.setb, AV.val, callee, evArgs, aBin, aUn, oneCell, cellsOf, Value.cells, evParts, evElems, evAll, fillP, zeros, RetK, resAll, resOf, tupleOf, bnd, intOf?, AFr.keep, RefT.cells, undef, Nat.reduceBEq, Nat.reduceAdd, Nat.reduceMul, Nat.reduceLeDiff, Nat.reduceEqDiff, reduceCtorEq, Int.reduceEq, Int.reduceLT, Int.reduceLE, Int.reduceAdd, Int.reduceSub, hz, hi, hbb, h1]
    unfold belowGo at hb
    rw [List.getElem?_eq_getElem hi] at hb
    refine Cd_split (fun ht => ?_) (fun ht => ?_)
    · have hw2 : IntKind.i64.wrap (((i + 1 : Nat) : Int) - 1) = (i : Int) := by
        rw [wrap_in (by omega) (by omega)]
        omega
      simp only [sx, argsFr, Sq, SI.wanted, AFr.ev, AFr.evV, AFr.get, AFr.box, AFr.put, AFr.setb, AV.val, callee, evArgs, aBin, aUn, oneCell, cellsOf, Value.cells, evParts, evElems, evAll, fillP, zeros, RetK, resAll, resOf, tupleOf, bnd, intOf?, AFr.keep, RefT.cells, undef, Nat.reduceBEq, Nat.reduceAdd, Nat.reduceMul, Nat.reduceLeDiff, Nat.reduceEqDiff, reduceCtorEq, Int.reduceEq, Int.reduceLT, Int.reduceLE, Int.reduceAdd, Int.reduceSub, hw2]
      refine ih i _ _ (by omega) ⟨rfl, ?_, by omega, ?_⟩
      · simp only [sx, argsFr, Sq, SI.wanted, AFr.ev, AFr.evV, AFr.get, AFr.box, AFr.put, AFr.setb, AV.val, callee, evArgs, aBin, aUn, oneCell, cellsOf, Value.cells, evParts, evElems, evAll, fillP, zeros, RetK, resAll, resOf, tupleOf, bnd, intOf?, AFr.keep, RefT.cells, undef, Nat.reduceBEq, Nat.reduceAdd, Nat.reduceMul, Nat.reduceLeDiff, Nat.reduceEqDiff, reduceCtorEq, Int.reduceEq, Int.reduceLT, Int.reduceLE, Int.reduceAdd, Int.reduceSub]
      · rw [hb]
        simp only [gtB, ht, if_true]
    · simp only [sx, argsFr, Sq, SI.wanted, AFr.ev, AFr.evV, AFr.get, AFr.box, AFr.put, AFr.setb, AV.val, callee, evArgs, aBin, aUn, oneCell, cellsOf, Value.cells, evParts, evElems, evAll, fillP, zeros, RetK, resAll, resOf, tupleOf, bnd, intOf?, AFr.keep, RefT.cells, undef, Nat.reduceBEq, Nat.reduceAdd, Nat.reduceMul, Nat.reduceLeDiff, Nat.reduceEqDiff, reduceCtorEq, Int.reduceEq, Int.reduceLT, Int.reduceLE, Int.reduceAdd, Int.reduceSub]
      simp only [gtB, ht, Bool.false_eq_true, if_false] at hb
      rw [hb] at hR
      exact hR
end
end Go.Proofs.Ytbldkkabkijpgaa

namespace Go.Proofs.Ytbldkkabkijpgaa
open Go.Am

/-- The place of a number in a list: that of the first one, or -1. -/
def idxGo (x : Int) : List Int → Int → Int
  | [], _ => -1
  | y :: l, i => if x = y then i else idxGo x l (i + 1)

theorem idxGo_in (x : Int) : ∀ (l : List Int) (i : Int), 0 ≤ i → (0 ≤ idxGo x l i ↔ x ∈ l)
  | [], i, _ => by simp [idxGo]
  | y :: l, i, h => by
    unfold idxGo
    by_cases e : x = y
    · simp [e, h]
    · simp [e, idxGo_in x l (i + 1) (by omega)]

def hasP (l : List OpT) (name : ByteArray) : Option ByteArray := (l.find? fun o => decide (o.name = name)).map (·.value)

set_option linter.unusedSimpArgs false
section
variable {A : AProg} (hA : Prg A)
include hA

theorem c129 {D σ v} {l : List Int} {x : Int} (h : SlR intK D σ v l) {R : Value → AHeap → Prop} (hR : R (.int .i64 (idxGo x l 0)) σ) : C A 129 [v, .int .i64 x] σ R := by
  refine C_fn s129 (hA.at rfl) ?_
  obtain ⟨base, c, rfl⟩ := h.shape
  have hmx := h.bound
  unfold maxN at hmx
  simp only [s129, sx, argsFr, Sq, SI.wanted, AFr.ev, AFr.evV, AFr.get, AFr.box, AFr.put, AFr.setb, AV.val, callee, evArgs, aBin, aUn, oneCell, cellsOf, Value.cells, evParts, evElems, evAll, fillP, zeros, RetK, resAll, resOf, tupleOf, bnd, intOf?, AFr.keep, RefT.cells, undef, Nat.reduceBEq, Nat.reduceAdd, Nat.reduceMul, Nat.reduceLeDiff, Nat.reduceEqDiff, reduceCtorEq, Int.reduceEq, Int.reduceLT, Int.reduceLE, Int.reduceAdd, Int.reduceSub]
  refine Lp_ind (fun i => l.length - i) (fun i f σ1 => σ1 = σ ∧ f.keep [0, 1, 7, 8] [] = some ⟨[(0, .v (.slice base l.length c)), (1, .v (.int .i64 x)), (7, .v (.int .i64 l.length)), (8, .v (.int .i64 i))], []⟩ ∧
    i ≤ l.length ∧ idxGo x l 0 = idxGo x (l.drop i) i) ?_ 0 _ _ ⟨rfl, rfl, Nat.zero_le _, rfl⟩
  rintro i f σ1 ⟨rfl, hkp, hi, hb⟩ ih
  rw [St_seq, St_keep hkp]
  simp only [sx, argsFr, Sq, SI.wanted, AFr.ev, AFr.evV, AFr.get, AFr.box, AFr.put, AFr.setb, AV.val, callee, evArgs, aBin, aUn, oneCell, cellsOf, Value.cells, evParts, evElems, evAll, fillP, zeros, RetK, resAll, resOf, tupleOf, bnd, intOf?, AFr.keep, RefT.cells, undef, Nat.reduceBEq, Nat.reduceAdd, Nat.reduceMul, Nat.reduceLeDiff, Nat.reduceEqDiff, reduceCtorEq, Int.reduceEq, Int.reduceLT, Int.reduceLE, Int.reduceAdd, Int.reduceSub]
  refine Cd_split (fun ht => ?_) (fun ht => ?_)
  · have hi' : i < l.length := by simpa using ht
    obtain ⟨b, off, cs, e, m, u, rfl, hbb, hcut, hu⟩ := h.at1 (List.getElem?_eq_getElem hi') rfl
    have hu' : u = .int .i64 l[i] := by simpa [intK, Kd.flat] using hu
    subst hu'
    rw [List.drop_eq_getElem_cons hi', idxGo] at hb
    simp only [sx, argsFr, Sq, SI.wanted, AFr.ev, AFr.evV, AFr.get, AFr.box, AFr.put, AFr.setb, AV.val, callee, evArgs, aBin, aUn, oneCell, cellsOf, Value.cells, evParts, evElems, evAll, fillP, zeros, RetK, resAll, resOf, tupleOf, bnd, intOf?, AFr.keep, RefT.cells, undef, Nat.reduceBEq, Nat.reduceAdd, Nat.reduceMul, Nat.reduceLeDiff, Nat.reduceEqDiff, reduceCtorEq, Int.reduceEq, Int.reduceLT, Int.reduceLE, Int.reduceAdd, Int.reduceSub, hi', hbb, hcut]
    refine Cd_split (fun ht => ?_) (fun ht => ?_)
    · simp only [sx, argsFr, Sq, SI.wanted, AFr.ev, AFr.evV, AFr.get, AFr.box, AFr.put, AFr.setb, AV.val, callee, evArgs, aBin, aUn, oneCell, cellsOf, Value.cells, evParts, evElems, evAll, fillP, zeros, RetK, resAll, resOf, tupleOf, bnd, intOf?, AFr.keep, RefT.cells, undef, Nat.reduceBEq, Nat.reduceAdd, Nat.reduceMul, Nat.reduceLeDiff, Nat.reduceEqDiff, reduceCtorEq, Int.reduceEq, Int.reduceLT, Int.reduceLE, Int.reduceAdd, Int.reduceSub]
      have : x = l[i] := by simpa using ht
      rw [if_pos this] at hb
      rw [hb] at hR
      exact hR
    · simp only [sx, argsFr, Sq, SI.wanted, AFr.ev, AFr.evV, AFr.get, AFr.box, AFr.put, AFr.setb, AV.val, callee, evArgs, aBin, aUn, oneCell, cellsOf, Value.cells, evParts, evElems, evAll, fillP, zeros, RetK, resAll, resOf, tupleOf, bnd, intOf?, AFr.keep, RefT.cells, undef, Nat.reduceBEq, Nat.reduceAdd, Nat.reduceMul, Nat.reduceLeDiff, Nat.reduceEqDiff, reduceCtorEq, Int.reduceEq, Int.reduceLT, Int.reduceLE, Int.reduceAdd, Int.reduceSub]
      have : ¬ x = l[i] := by simpa using ht
      rw [if_neg this] at hb
      refine ih (i + 1) _ _ (by omega) ⟨rfl, ?_, by omega, hb⟩
      simp only [sx, argsFr, Sq, SI.wanted, AFr.ev, AFr.evV, AFr.get, AFr.box, AFr.put, AFr.setb, AV.val, callee, evArgs, aBin, aUn, oneCell, cellsOf, Value.cells, evParts, evElems, evAll, fillP, zeros, RetK, resAll, resOf, tupleOf, bnd, intOf?, AFr.keep, RefT.cells, undef, Nat.reduceBEq, Nat.reduceAdd, Nat.reduceMul, Nat.reduceLeDiff, Nat.reduceEqDiff, reduceCtorEq, Int.reduceEq, Int.reduceLT, Int.reduceLE, Int.reduceAdd, Int.reduceSub, wrap_up (show i ≤ 1000000000000000 by omega)]
  · simp only [sx, argsFr, Sq, SI.wanted, AFr.ev, AFr.evV, AFr.get, AFr.box, AFr.put, AFr.setb, AV.val, callee, evArgs, aBin, aUn, oneCell, cellsOf, Value.cells, evParts, evElems, evAll, fillP, zeros, RetK, resAll, resOf, tupleOf, bnd, intOf?, AFr.keep, RefT.cells, undef, Nat.reduceBEq, Nat.reduceAdd, Nat.reduceMul, Nat.reduceLeDiff, Nat.reduceEqDiff, reduceCtorEq, Int.reduceEq, Int.reduceLT, Int.reduceLE, Int.reduceAdd, Int.reduceSub]
    have : i = l.length := by simp at ht; omega
    subst this
    rw [List.drop_length, idxGo] at hb
    rw [hb] at hR
    exact hR

theorem c100 {D σ v} {l : List Int} {x : Int} (h : SlR intK D σ v l) {R : Value → AHeap → Prop} (hR : R (.bool (decide (x ∈ l))) σ) : C A 100 [v, .int .i64 x] σ R := by
  refine C_fn s100 (hA.at rfl) ?_
  simp only [s100, sx, argsFr, Sq, SI.wanted, AFr.ev, AFr.evV, AFr.get, AFr.box, AFr.put, AFr.setb, AV.val, callee, evArgs, aBin, aUn, oneCell, cellsOf, Value.cells, evParts, evElems, evAll, fillP, zeros, RetK, resAll, resOf, tupleOf, bnd, intOf?, AFr.keep, RefT.cells, undef, Nat.reduceBEq, Nat.reduceAdd, Nat.reduceMul, Nat.reduceLeDiff, Nat.reduceEqDiff, reduceCtorEq, Int.reduceEq, Int.reduceLT, Int.reduceLE, Int.reduceAdd, Int.reduceSub]
  refine Or.inl (c129 hA h ?_)
  simp only [sx, argsFr, Sq, SI.wanted, AFr.ev, AFr.evV, AFr.get, AFr.box, AFr.put, AFr.setb, AV.val, callee, evArgs, aBin, aUn, oneCell, cellsOf, Value.cells, evParts, evElems, evAll, fillP, zeros, RetK, resAll, resOf, tupleOf, bnd, intOf?, AFr.keep, RefT.cells, undef, Nat.reduceBEq, Nat.reduceAdd, Nat.reduceMul, Nat.reduceLeDiff, Nat.reduceEqDiff, reduceCtorEq, Int.reduceEq, Int.reduceLT, Int.reduceLE, Int.reduceAdd, Int.reduceSub]
  have := idxGo_in x l 0 (Int.le_refl 0)
  have e : (decide (idxGo x l 0 ≥ 0)) = decide (x ∈ l) := by simp only [ge_iff_le, this]
  rw [e]
  exact hR

theorem c21 {D σ v} {l : List Int} {x : Int} (h : SlR intK D σ v l) {R : Value → AHeap → Prop} (hR : R (.bool (decide (x ∈ l))) σ) : C A 21 [v, .int .i64 x] σ R := by
  refine C_fn s21 (hA.at rfl) ?_
  obtain ⟨base, c, rfl⟩ := h.shape
  have hmx := h.bound
  unfold maxN at hmx
  simp only [s21, sx, argsFr, Sq, SI.wanted, AFr.ev, AFr.evV, AFr.get, AFr.box, AFr.put, AFr.setb, AV.val, callee, evArgs, aBin, aUn, oneCell, cellsOf, Value.cells, evParts, evElems, evAll, fillP, zeros, RetK, resAll, resOf, tupleOf, bnd, intOf?, AFr.keep, RefT.cells, undef, Nat.reduceBEq, Nat.reduceAdd, Nat.reduceMul, Nat.reduceLeDiff, Nat.reduceEqDiff, reduceCtorEq, Int.reduceEq, Int.reduceLT, Int.reduceLE, Int.reduceAdd, Int.reduceSub]
  refine Lp_ind (fun i => l.length - i) (fun i f σ1 => σ1 = σ ∧ f.keep [1, 7, 8, 9] [] = some ⟨[(1, .v (.int .i64 x)), (7, .v (.slice base l.length c)), (8, .v (.int .i64 l.length)), (9, .v (.int .i64 i))], []⟩ ∧
    i ≤ l.length ∧ (x ∈ l ↔ x ∈ l.drop i)) ?_ 0 _ _ ⟨rfl, rfl, Nat.zero_le _, Iff.rfl⟩
  rintro i f σ1 ⟨rfl, hkp, hi, hb⟩ ih
  rw [St_seq, St_keep hkp]
  simp only [sx, argsFr, Sq, SI.wanted, AFr.ev, AFr.evV, AFr.get, AFr.box, AFr.put, AFr.setb, AV.val, callee, evArgs, aBin, aUn, oneCell, cellsOf, Value.cells, evParts, evElems, evAll, fillP, zeros, RetK, resAll, resOf, tupleOf, bnd, intOf?, AFr.keep, RefT.cells, undef, Nat.reduceBEq, Nat.reduceAdd, Nat.reduceMul, Nat.reduceLeDiff, Nat.reduceEqDiff, reduceCtorEq, Int.reduceEq, Int.reduceLT, Int.reduceLE, Int.reduceAdd, Int.reduceSub]
  refine Cd_split (fun ht => ?_) (fun ht => ?_)
  · have hi' : i < l.length := by simpa using ht
    obtain ⟨b, off, cs, e, m, u, rfl, hbb, hcut, hu⟩ := h.at1 (List.getElem?_eq_getElem hi') rfl
    have hu' : u = .int .i64 l[i] := by simpa [intK, Kd.flat] using hu
    subst hu'
    rw [List.drop_eq_getElem_cons hi', List.mem_cons] at hb
    simp only [sx, argsFr, Sq, SI.wanted, AFr.ev, AFr.evV, AFr.get, AFr.box, AFr.put, AFr.setb, AV.val, callee, evArgs, aBin, aUn, oneCell, cellsOf, Value.cells, evParts, evElems, evAll, fillP, zeros, RetK, resAll, resOf, tupleOf, bnd, intOf?, AFr.keep, RefT.cells, undef, Nat.reduceBEq, Nat.reduceAdd, Nat.reduceMul, Nat.reduceLeDiff, Nat.reduceEqDiff, reduceCtorEq, Int.reduceEq, Int.reduceLT, Int.reduceLE, Int.reduceAdd, Int.reduceSub, hi', hbb, hcut]
    refine Cd_split (fun ht => ?_) (fun ht => ?_)
    · simp only [sx, argsFr, Sq, SI.wanted, AFr.ev, AFr.evV, AFr.get, AFr.box, AFr.put, AFr.setb, AV.val, callee, evArgs, aBin, aUn, oneCell, cellsOf, Value.cells, evParts, evElems, evAll, fillP, zeros, RetK, resAll, resOf, tupleOf, bnd, intOf?, AFr.keep, RefT.cells, undef, Nat.reduceBEq, Nat.reduceAdd, Nat.reduceMul, Nat.reduceLeDiff, Nat.reduceEqDiff, reduceCtorEq, Int.reduceEq, Int.reduceLT, Int.reduceLE, Int.reduceAdd, Int.reduceSub]
      have : l[i] = x := by simpa using ht
      have hx : decide (x ∈ l) = true := by simp [hb, this]
      rw [hx] at hR
      exact hR
    · simp only [sx, argsFr, Sq, SI.wanted, AFr.ev, AFr.evV, AFr.get, AFr.box, AFr.put, AFr.setb, AV.val, callee, evArgs, aBin, aUn, oneCell, cellsOf, Value.cells, evParts, evElems, evAll, fillP, zeros, RetK, resAll, resOf, tupleOf, bnd, intOf?, AFr.keep, RefT.cells, undef, Nat.reduceBEq, Nat.reduceAdd, Nat.reduceMul, Nat.reduceLeDiff, Nat.reduceEqDiff, reduceCtorEq, Int.reduceEq, Int.reduceLT, Int.reduceLE, Int.reduceAdd, Int.reduceSub]
      have : ¬ x = l[i] := fun e => by simp [e] at ht
      refine ih (i + 1) _ _ (by omega) ⟨rfl, ?_, by omega, by simpa [this] using hb⟩
      simp only [sx, argsFr, Sq, SI.wanted, AFr.ev, AFr.evV, AFr.get, AFr.box, AFr.put, AFr.setb, AV.val, callee, evArgs, aBin, aUn, oneCell, cellsOf, Value.cells, evParts, evElems, evAll, fillP, zeros, RetK, resAll, resOf, tupleOf, bnd, intOf?, AFr.keep, RefT.cells, undef, Nat.reduceBEq, Nat.reduceAdd, Nat.reduceMul, Nat.reduceLeDiff, Nat.reduceEqDiff, reduceCtorEq, Int.reduceEq, Int.reduceLT, Int.reduceLE, Int.reduceAdd, Int.reduceSub, wrap_up (show i ≤ 1000000000000000 by omega)]
  · simp only [sx, argsFr, Sq, SI.wanted, AFr.ev, AFr.evV, AFr.get, AFr.box, AFr.put, AFr.setb, AV.val, callee, evArgs, aBin, aUn, oneCell, cellsOf, Value.cells, evParts, evElems, evAll, fillP, zeros, RetK, resAll, resOf, tupleOf, bnd, intOf?, AFr.keep, RefT.cells, undef, Nat.reduceBEq, Nat.reduceAdd, Nat.reduceMul, Nat.reduceLeDiff, Nat.reduceEqDiff, reduceCtorEq, Int.reduceEq, Int.reduceLT, Int.reduceLE, Int.reduceAdd, Int.reduceSub]
    have : i = l.length := by simp at ht; omega
    subst this
    rw [List.drop_length] at hb
    have hx : decide (x ∈ l) = false := by simp [hb]
    rw [hx] at hR
    exact hR

theorem c15 {D σ base} {l : List OpT} {most : Nat} (h : SlR opK D σ (.slice base l.length (l.length + 5)) l) {R : Value → AHeap → Prop}
    (hR : ∀ base' c', SlR opK D σ (.slice base' (l.take most).length c') (l.take most) → R (.slice base' (l.take most).length c') σ) : C A 15 [.slice base l.length (l.length + 5), .int .i64 most] σ R := by
  refine C_fn s15 (hA.at rfl) ?_
  by_cases hl : most < l.length
  · have hl' : (l.length : Int) > (most : Int) := by omega
    have hle : (most : Int) ≤ (l.length : Int) := by omega
    have hlen : (l.take most).length = most := by simp; omega
    cases base with
    | none =>
      have := h.none_nil.1
      simp [this] at hl
    | some a =>
      have ha : ∃ b off, a = ⟨b, off, none⟩ := by
        obtain ⟨b, off, cs, e, m, cells, hb, _⟩ := h.at (i := 0) (List.getElem?_eq_getElem (by omega))
        exact ⟨b, off, by simpa using hb⟩
      obtain ⟨b, off, rfl⟩ := ha
      simp only [s15, sx, argsFr, Sq, SI.wanted, AFr.ev, AFr.evV, AFr.get, AFr.box, AFr.put, AFr.setb, AV.val, callee, evArgs, aBin, aUn, oneCell, cellsOf, Value.cells, evParts, evElems, evAll, fillP, zeros, RetK, resAll, resOf, tupleOf, bnd, intOf?, AFr.keep, RefT.cells, undef, Nat.reduceBEq, Nat.reduceAdd, Nat.reduceMul, Nat.reduceLeDiff, Nat.reduceEqDiff, reduceCtorEq, Int.reduceEq, Int.reduceLT, Int.reduceLE, Int.reduceAdd, Int.reduceSub, stepOp.eq_20, hl', hle]
      have := hR (some ⟨b, off, none⟩) (most + 5)
      rw [hlen] at this
      exact this (h.take (by omega))
  · have hl' : ¬ (l.length : Int) > (most : Int) := by omega
    simp only [s15, sx, argsFr, Sq, SI.wanted, AFr.ev, AFr.evV, AFr.get, AFr.box, AFr.put, AFr.setb, AV.val, callee, evArgs, aBin, aUn, oneCell, cellsOf, Value.cells, evParts, evElems, evAll, fillP, zeros, RetK, resAll, resOf, tupleOf, bnd, intOf?, AFr.keep, RefT.cells, undef, Nat.reduceBEq, Nat.reduceAdd, Nat.reduceMul, Nat.reduceLeDiff, Nat.reduceEqDiff, reduceCtorEq, Int.reduceEq, Int.reduceLT, Int.reduceLE, Int.reduceAdd, Int.reduceSub, hl']
    rw [List.take_of_length_le (by omega)] at hR
    exact hR _ _ h

theorem c45 {D σ v} {l : List OpT} {name : ByteArray} (h : SlR opK D σ v l) {R : Value → AHeap → Prop}
    (hR : R (.tuple #[.string ((hasP l name).getD ⟨#[]⟩), .bool (hasP l name).isSome]) σ) : C A 45 [v, .string name] σ R := by
  refine C_fn s45 (hA.at rfl) ?_
  obtain ⟨base, c, rfl⟩ := h.shape
  have hmx := h.bound
  unfold maxN at hmx
  simp only [s45, sx, argsFr, Sq, SI.wanted, AFr.ev, AFr.evV, AFr.get, AFr.box, AFr.put, AFr.setb, AV.val, callee, evArgs, aBin, aUn, oneCell, cellsOf, Value.cells, evParts, evElems, evAll, fillP, zeros, RetK, resAll, resOf, tupleOf, bnd, intOf?, AFr.keep, RefT.cells, undef, Nat.reduceBEq, Nat.reduceAdd, Nat.reduceMul, Nat.reduceLeDiff, Nat.reduceEqDiff, reduceCtorEq, Int.reduceEq, Int.reduceLT, Int.reduceLE, Int.reduceAdd, Int.reduceSub]
  refine Lp_ind (fun i => l.length - i) (fun i f σ1 => σ1 = σ ∧ f.keep [1, 8, 9, 10] [] = some ⟨[(1, .v (.string name)), (8, .v (.slice base l.length c)), (9, .v (.int .i64 l.length)), (10, .v (.int .i64 i))], []⟩ ∧
    i ≤ l.length ∧ hasP l name = hasP (l.drop i) name) ?_ 0 _ _ ⟨rfl, rfl, Nat.zero_le _, rfl⟩
  rintro i f σ1 ⟨rfl, hkp, hi, hb⟩ ih
  rw [St_seq, St_keep hkp]
  simp only [sx, argsFr, Sq, SI.wanted, AFr.ev, AFr.evV, AFr.get, AFr.box, AFr.put, AFr.setb, AV.val, callee, evArgs, aBin, aUn, oneCell, cellsOf, Value.cells, evParts, evElems, evAll, fillP, zeros, RetK, resAll, resOf, tupleOf, bnd, intOf?, AFr.keep, RefT.cells, undef, Nat.reduceBEq, Nat.reduceAdd, Nat.reduceMul, Nat.reduceLeDiff, Nat.reduceEqDiff, reduceCtorEq, Int.reduceEq, Int.reduceLT, Int.reduceLE, Int.reduceAdd, Int.reduceSub]
  refine Cd_split (fun ht => ?_) (fun ht => ?_)
  · have hi' : i < l.length := by simpa using ht
    obtain ⟨b, off, cs, e, m, cells, rfl, hbb, hcut, y, hy, hys⟩ := h.atN (j := 5) rfl (List.getElem?_eq_getElem hi')
    subst hy
    obtain ⟨base', c', rfl⟩ := hys.shape
    rw [List.drop_eq_getElem_cons hi'] at hb
    simp only [sx, argsFr, Sq, SI.wanted, AFr.ev, AFr.evV, AFr.get, AFr.box, AFr.put, AFr.setb, AV.val, callee, evArgs, aBin, aUn, oneCell, cellsOf, Value.cells, evParts, evElems, evAll, fillP, zeros, RetK, resAll, resOf, tupleOf, bnd, intOf?, AFr.keep, RefT.cells, undef, Nat.reduceBEq, Nat.reduceAdd, Nat.reduceMul, Nat.reduceLeDiff, Nat.reduceEqDiff, reduceCtorEq, Int.reduceEq, Int.reduceLT, Int.reduceLE, Int.reduceAdd, Int.reduceSub, hi', hbb, hcut]
    refine Cd_split (fun ht => ?_) (fun ht => ?_)
    · simp only [sx, argsFr, Sq, SI.wanted, AFr.ev, AFr.evV, AFr.get, AFr.box, AFr.put, AFr.setb, AV.val, callee, evArgs, aBin, aUn, oneCell, cellsOf, Value.cells, evParts, evElems, evAll, fillP, zeros, RetK, resAll, resOf, tupleOf, bnd, intOf?, AFr.keep, RefT.cells, undef, Nat.reduceBEq, Nat.reduceAdd, Nat.reduceMul, Nat.reduceLeDiff, Nat.reduceEqDiff, reduceCtorEq, Int.reduceEq, Int.reduceLT, Int.reduceLE, Int.reduceAdd, Int.reduceSub]
      have : hasP l name = some l[i].value := by rw [hb, hasP, List.find?_cons_of_pos (by simpa using ht)]; rfl
      rw [this] at hR
      exact hR
    · simp only [sx, argsFr, Sq, SI.wanted, AFr.ev, AFr.evV, AFr.get, AFr.box, AFr.put, AFr.setb, AV.val, callee, evArgs, aBin, aUn, oneCell, cellsOf, Value.cells, evParts, evElems, evAll, fillP, zeros, RetK, resAll, resOf, tupleOf, bnd, intOf?, AFr.keep, RefT.cells, undef, Nat.reduceBEq, Nat.reduceAdd, Nat.reduceMul, Nat.reduceLeDiff, Nat.reduceEqDiff, reduceCtorEq, Int.reduceEq, Int.reduceLT, Int.reduceLE, Int.reduceAdd, Int.reduceSub]
      refine ih (i + 1) _ _ (by omega) ⟨rfl, ?_, by omega, ?_⟩
      · simp only [sx, argsFr, Sq, SI.wanted, AFr.ev, AFr.evV, AFr.get, AFr.box, AFr.put, AFr.setb, AV.val, callee, evArgs, aBin, aUn, oneCell, cellsOf, Value.cells, evParts, evElems, evAll, fillP, zeros, RetK, resAll, resOf, tupleOf, bnd, intOf?, AFr.keep, RefT.cells, undef, Nat.reduceBEq, Nat.reduceAdd, Nat.reduceMul, Nat.reduceLeDiff, Nat.reduceEqDiff, reduceCtorEq, Int.reduceEq, Int.reduceLT, Int.reduceLE, Int.reduceAdd, Int.reduceSub, wrap_up (show i ≤ 1000000000000000 by omega)]
      · rw [hb, hasP, List.find?_cons_of_neg (by simpa using ht)]
        rfl
  · simp only [sx, argsFr, Sq, SI.wanted, AFr.ev, AFr.evV, AFr.get, AFr.box, AFr.put, AFr.setb, AV.val, callee, evArgs, aBin, aUn, oneCell, cellsOf, Value.cells, evParts, evElems, evAll, fillP, zeros, RetK, resAll, resOf, tupleOf, bnd, intOf?, AFr.keep, RefT.cells, undef, Nat.reduceBEq, Nat.reduceAdd, Nat.reduceMul, Nat.reduceLeDiff, Nat.reduceEqDiff, reduceCtorEq, Int.reduceEq, Int.reduceLT, Int.reduceLE, Int.reduceAdd, Int.reduceSub]
    have : i = l.length := by simp at ht; omega
    subst this
    rw [List.drop_length] at hb
    rw [hb] at hR
    exact hR

theorem c17 {D σ vs} {o : OpT} (hs : SlR intK D σ vs o.segs) (hD : ∀ b ∈ D, b < σ.size) {R : Value → AHeap → Prop}
    (hR : ∀ v N σ', Own verK D σ' N v [⟨1, o.value, ⟨#[]⟩⟩] → Mv [] σ N σ' → R (.agg #[.string o.name, v]) σ') :
    C A 17 [.agg #[.int .i64 o.d, .string o.name, .string o.value, vs, .int .i64 o.back]] σ R := by
  refine C_fn s17 (hA.at rfl) ?_
  obtain ⟨base, c, rfl⟩ := hs.shape
  simp only [s17, sx, argsFr, Sq, SI.wanted, AFr.ev, AFr.evV, AFr.get, AFr.box, AFr.put, AFr.setb, AV.val, callee, evArgs, aBin, aUn, oneCell, cellsOf, Value.cells, evParts, evElems, evAll, fillP, zeros, RetK, resAll, resOf, tupleOf, bnd, intOf?, AFr.keep, RefT.cells, undef, Nat.reduceBEq, Nat.reduceAdd, Nat.reduceMul, Nat.reduceLeDiff, Nat.reduceEqDiff, reduceCtorEq, Int.reduceEq, Int.reduceLT, Int.reduceLE, Int.reduceAdd, Int.reduceSub]
  exact hR _ [σ.size] _ (Own.newRow (K := verK) (xs := [⟨1, o.value, ⟨#[]⟩⟩]) rfl hD rfl (show 1 * 40 ≤ maxN by decide) rfl (Kd.list_one rfl)) (Mv.new [] σ _)
end
end Go.Proofs.Ytbldkkabkijpgaa

namespace Go.Proofs.Ytbldkkabkijpgaa
open Go.Am

set_option linter.unusedSimpArgs false
section
variable {A : AProg} (hA : Prg A)
variable {S : Type} (P : Store A S)

/-- The kids of a node, moved one by one. -/
def moveKids (rec : S → RefT → Except Int (RefT × Int) × S) : S → List KidT → Int → List KidT → Except Int (List KidT × Int) × S
  | s, dn, n, [] => (.ok (dn, n), s)
  | s, dn, n, k :: l =>
    match rec s k.ref with
    | (.error e, s') => (.error e, s')
    | (.ok (to, m), s') => moveKids rec s' (dn ++ [⟨k.low, to⟩]) (IntKind.i64.wrap (n + m)) l

/-- A page and what is below it, laid down anew as far as it must; the last number: 9 less how deep it is. -/
def moveP (segs : List Int) : Nat → S → RefT → Except Int (RefT × Int) × S
  | 0, s, _ => (.error 70, s)
  | u + 1, s, r =>
    match atP P s r (8 - u) with
    | (.error e, s') => (.error e, s')
    | (.ok x, s') =>
      match moveKids (moveP segs u) s' [] 0 x.ks with
      | (.error e, s2) => (.error e, s2)
      | (.ok (ks, n), s2) =>
        if n = 0 ∧ r.seg ∉ segs then (.ok (r, 0), s2) else
        match P.wr s2 ⟨x.leaf, x.es, ks⟩ with
        | (.error e, s3) => (.error e, s3)
        | (.ok to, s3) => (.ok (to, IntKind.i64.wrap (n + 1)), s3)

include hA in
theorem c59 {segs : List Int} : ∀ (u : Nat) {D0 N σ s v} {r : RefT} {deep : Nat}, deep + u = 9 → P.is D0 N σ s → SlR intK (N ++ D0) σ v segs → (∀ b ∈ D0, b < σ.size) → ∀ {R : Value → AHeap → Prop},
    (∀ e s' N' σ', moveP P segs u s r = (.error e, s') → e ≠ 0 → P.is D0 N' σ' s' → Mv N σ N' σ' → R (.tuple #[.agg #[.int .u64 0, .int .i64 0, .int .i64 0, .int .i64 0], .int .i64 0, .int .i64 e]) σ') →
    (∀ to n s' N' σ', moveP P segs u s r = (.ok (to, n), s') → P.is D0 N' σ' s' → Mv N σ N' σ' →
      R (.tuple #[.agg #[.int .u64 to.key, .int .i64 to.seg, .int .i64 to.off, .int .i64 to.len], .int .i64 n, .int .i64 0]) σ') →
    C A 59 [.agg #[.iface P.ti P.pv], .agg #[.int .u64 r.key, .int .i64 r.seg, .int .i64 r.off, .int .i64 r.len], v, .int .i64 deep] σ R := by
  intro u
  induction u with
  | zero =>
    intro D0 N σ s v r deep hu hh hs hD R h0 h1
    refine C_fn s59 (hA.at rfl) ?_
    obtain ⟨base, c, rfl⟩ := hs.shape
    simp only [s59, sx, argsFr, Sq, SI.wanted, AFr.ev, AFr.evV, AFr.get, AFr.box, AFr.put, AFr.setb, AV.val, callee, evArgs, aBin, aUn, oneCell, cellsOf, Value.cells, evParts, evElems, evAll, fillP, zeros, RetK, resAll, resOf, tupleOf, bnd, intOf?, AFr.keep, RefT.cells, undef, Nat.reduceBEq, Nat.reduceAdd, Nat.reduceMul, Nat.reduceLeDiff, Nat.reduceEqDiff, reduceCtorEq, Int.reduceEq, Int.reduceLT, Int.reduceLE, Int.reduceAdd, Int.reduceSub]
    refine Or.inl (c83 hA P hh hD (fun e s' N' σ1 hr he hi hm => ?_) (fun x s' ve vk N1 N2 N' σ1 hr hi hn hm => ?_))
    · simp only [sx, argsFr, Sq, SI.wanted, AFr.ev, AFr.evV, AFr.get, AFr.box, AFr.put, AFr.setb, AV.val, callee, evArgs, aBin, aUn, oneCell, cellsOf, Value.cells, evParts, evElems, evAll, fillP, zeros, RetK, resAll, resOf, tupleOf, bnd, intOf?, AFr.keep, RefT.cells, undef, Nat.reduceBEq, Nat.reduceAdd, Nat.reduceMul, Nat.reduceLeDiff, Nat.reduceEqDiff, reduceCtorEq, Int.reduceEq, Int.reduceLT, Int.reduceLE, Int.reduceAdd, Int.reduceSub, he]
      have : e = 70 ∧ s' = s := by
        have h9 : 8 < deep := by omega
        simp [atP, h9] at hr
        exact ⟨hr.1.symm, hr.2.symm⟩
      obtain ⟨rfl, rfl⟩ := this
      exact h0 70 _ N' σ1 rfl he hi hm
    · have h9 : 8 < deep := by omega
      simp [atP, h9] at hr
  | succ u ihu =>
    intro D0 N σ s v r deep hu hh hs hD R h0 h1
    have hdeep : deep = 8 - u := by omega
    subst hdeep
    refine C_fn s59 (hA.at rfl) ?_
    obtain ⟨base, c, rfl⟩ := hs.shape
    simp only [s59, sx, argsFr, Sq, SI.wanted, AFr.ev, AFr.evV, AFr.get, AFr.box, AFr.put, AFr.setb, AV.val, callee, evArgs, aBin, aUn, oneCell, cellsOf, Value.cells, evParts, evElems, evAll, fillP, zeros, RetK, resAll, resOf, tupleOf, bnd, intOf?, AFr.keep, RefT.cells, undef, Nat.reduceBEq, Nat.reduceAdd, Nat.reduceMul, Nat.reduceLeDiff, Nat.reduceEqDiff, reduceCtorEq, Int.reduceEq, Int.reduceLT, Int.reduceLE, Int.reduceAdd, Int.reduceSub]
    refine Or.inl (c83 hA P hh hD (fun e s' N' σ1 hr he hi hm => ?_) (fun x s' ve vk N1 N2 N' σ1 hr hi hn hm => ?_))
    · simp only [sx, argsFr, Sq, SI.wanted, AFr.ev, AFr.evV, AFr.get, AFr.box, AFr.put, AFr.setb, AV.val, callee, evArgs, aBin, aUn, oneCell, cellsOf, Value.cells, evParts, evElems, evAll, fillP, zeros, RetK, resAll, resOf, tupleOf, bnd, intOf?, AFr.keep, RefT.cells, undef, Nat.reduceBEq, Nat.reduceAdd, Nat.reduceMul, Nat.reduceLeDiff, Nat.reduceEqDiff, reduceCtorEq, Int.reduceEq, Int.reduceLT, Int.reduceLE, Int.reduceAdd, Int.reduceSub, he]
      exact h0 e _ N' σ1 (by simp [moveP, hr]) he hi hm
    · obtain ⟨b3, c3, rfl⟩ := hn.es.shape
      obtain ⟨b4, c4, rfl⟩ := hn.ks.shape
      simp only [sx, argsFr, Sq, SI.wanted, AFr.ev, AFr.evV, AFr.get, AFr.box, AFr.put, AFr.setb, AV.val, callee, evArgs, aBin, aUn, oneCell, cellsOf, Value.cells, evParts, evElems, evAll, fillP, zeros, RetK, resAll, resOf, tupleOf, bnd, intOf?, AFr.keep, RefT.cells, undef, Nat.reduceBEq, Nat.reduceAdd, Nat.reduceMul, Nat.reduceLeDiff, Nat.reduceEqDiff, reduceCtorEq, Int.reduceEq, Int.reduceLT, Int.reduceLE, Int.reduceAdd, Int.reduceSub]
      have hmx := hn.ks.bound
      unfold maxN at hmx
      refine Lp_ind (fun i => x.ks.length - i) (fun i f σ2 => ∃ dn n s2 N2', f.keep [2, 3, 4, 5, 8, 11, 13, 33, 34, 35] [4, 5, 8, 11] =
          some ⟨[(2, .v (.slice base segs.length c)), (3, .v (.int .i64 (8 - u : Nat))), (4, .l 4 0), (5, .l 5 0), (8, .l 8 0), (11, .l 11 0), (13, .v (.int .i64 n)), (33, .v (.slice b4 x.ks.length c4)), (34, .v (.int .i64 x.ks.length)), (35, .v (.int .i64 i))],
            [(4, [.iface P.ti P.pv]), (5, [.int .u64 r.key, .int .i64 r.seg, .int .i64 r.off, .int .i64 r.len]), (8, [.int .u64 0, .int .i64 0, .int .i64 0, .int .i64 0]), (11, [.bool x.leaf, .slice b3 x.es.length c3, .slice b4 x.ks.length c4])]⟩ ∧
        i ≤ x.ks.length ∧ dn.length = i ∧ P.is (N1 ++ N2 ++ D0) N2' σ2 s2 ∧ NodeO (N2' ++ D0) N1 N2 σ2 (.slice b3 x.es.length c3) (.slice b4 x.ks.length c4) ⟨x.leaf, x.es, dn ++ x.ks.drop i⟩ ∧ Mv N σ (N1 ++ N2 ++ N2') σ2 ∧
        moveKids (moveP P segs u) s' [] 0 x.ks = moveKids (moveP P segs u) s2 dn n (x.ks.drop i)) ?_ 0 _ _ ⟨[], 0, s', N', rfl, Nat.zero_le _, rfl, hi, hn, hm, rfl⟩
      clear hn hm hi
      rintro i f σ2 ⟨dn, n, s2, N2', hkp, hi, hdn, his, hno, hm, hmk⟩ ih
      rw [St_seq, St_keep hkp]
      simp only [sx, argsFr, Sq, SI.wanted, AFr.ev, AFr.evV, AFr.get, AFr.box, AFr.put, AFr.setb, AV.val, callee, evArgs, aBin, aUn, oneCell, cellsOf, Value.cells, evParts, evElems, evAll, fillP, zeros, RetK, resAll, resOf, tupleOf, bnd, intOf?, AFr.keep, RefT.cells, undef, Nat.reduceBEq, Nat.reduceAdd, Nat.reduceMul, Nat.reduceLeDiff, Nat.reduceEqDiff, reduceCtorEq, Int.reduceEq, Int.reduceLT, Int.reduceLE, Int.reduceAdd, Int.reduceSub]
      refine Cd_split (fun ht => ?_) (fun ht => ?_)
      · have hi' : i < x.ks.length := by simpa using ht
        have hx : (dn ++ x.ks.drop i)[i]? = some x.ks[i] := by
          rw [List.getElem?_append_right (by omega), List.getElem?_drop, hdn]
          simp [hi']
        obtain ⟨b, cs, rfl, rfl, hb, hlen, hrel, _⟩ := hno.ks.setPart (j := 5) rfl hx
        have hcut : cut (some 5) cs (i * 5) = some (.agg #[.string x.ks[i].low, .int .u64 x.ks[i].ref.key, .int .i64 x.ks[i].ref.seg, .int .i64 x.ks[i].ref.off, .int .i64 x.ks[i].ref.len]) := by
          have hrel' : (cs.drop (i * 5)).take 5 = _ := hrel
          rw [cut, if_pos hlen, hrel']
          rfl
        have hD1 : ∀ q ∈ N1 ++ [b] ++ D0, q < σ2.size := lt_app (lt_app hno.es.lt (fun q hq => by simp at hq; subst hq; exact lt_of_get hb) (Nat.le_refl _)) hD hm.size
        have hs1 : SlR intK (N2' ++ (N1 ++ [b] ++ D0)) σ2 (.slice base segs.length c) segs :=
          hs.step (hm.mono (fun q hq => by simp [hq]) fun q hq => by simp only [List.mem_append] at hq ⊢; grind)
        have hwd : IntKind.i64.wrap (((8 - u : Nat) : Int) + 1) = ((8 - u + 1 : Nat) : Int) := wrap_up (by omega)
        rw [List.drop_eq_getElem_cons hi', moveKids] at hmk
        simp only [sx, argsFr, Sq, SI.wanted, AFr.ev, AFr.evV, AFr.get, AFr.box, AFr.put, AFr.setb, AV.val, callee, evArgs, aBin, aUn, oneCell, cellsOf, Value.cells, evParts, evElems, evAll, fillP, zeros, RetK, resAll, resOf, tupleOf, bnd, intOf?, AFr.keep, RefT.cells, undef, Nat.reduceBEq, Nat.reduceAdd, Nat.reduceMul, Nat.reduceLeDiff, Nat.reduceEqDiff, reduceCtorEq, Int.reduceEq, Int.reduceLT, Int.reduceLE, Int.reduceAdd, Int.reduceSub, hi', hb, hcut, hwd]
        refine Or.inl (ihu (by omega) his hs1 hD1 (fun e s3 N3 σ3 hr3 he3 hi3 hm3 => ?_) (fun to m s3 N3 σ3 hr3 hi3 hm3 => ?_))
        · simp only [sx, argsFr, Sq, SI.wanted, AFr.ev, AFr.evV, AFr.get, AFr.box, AFr.put, AFr.setb, AV.val, callee, evArgs, aBin, aUn, oneCell, cellsOf, Value.cells, evParts, evElems, evAll, fillP, zeros, RetK, resAll, resOf, tupleOf, bnd, intOf?, AFr.keep, RefT.cells, undef, Nat.reduceBEq, Nat.reduceAdd, Nat.reduceMul, Nat.reduceLeDiff, Nat.reduceEqDiff, reduceCtorEq, Int.reduceEq, Int.reduceLT, Int.reduceLE, Int.reduceAdd, Int.reduceSub, he3]
          rw [hr3] at hmk
          refine h0 e s3 N3 σ3 (by simp only [moveP, hr, hmk]) he3 (P.step hi3 ⟨Nat.le_refl _, fun _ _ _ => rfl, fun q _ hq => by simp [hq]⟩) ?_
          exact hm.trans ((hm3.pre (N1 ++ [b])).trans ⟨Nat.le_refl _, fun _ _ _ => rfl, fun q _ hq => by simp [hq]⟩)
        · rw [hr3] at hmk
          have hno3 := hno.step (hm3.post D0)
          obtain ⟨b', cs', hbe, _, hb', hlen', hrel', hset⟩ := hno3.ks.setPart (j := 5) rfl hx
          have : b' = b := by simpa using hbe.symm
          subst this
          have hl1 : i * 5 + 1 + 4 ≤ cs'.length := by omega
          simp only [sx, argsFr, Sq, SI.wanted, AFr.ev, AFr.evV, AFr.get, AFr.box, AFr.put, AFr.setb, AV.val, callee, evArgs, aBin, aUn, oneCell, cellsOf, Value.cells, evParts, evElems, evAll, fillP, zeros, RetK, resAll, resOf, tupleOf, bnd, intOf?, AFr.keep, RefT.cells, undef, Nat.reduceBEq, Nat.reduceAdd, Nat.reduceMul, Nat.reduceLeDiff, Nat.reduceEqDiff, reduceCtorEq, Int.reduceEq, Int.reduceLT, Int.reduceLE, Int.reduceAdd, Int.reduceSub, hi', hb', hl1]
          have hq : splice ((cs'.drop (i * 5)).take 5) 1 [.int .u64 to.key, .int .i64 to.seg, .int .i64 to.off, .int .i64 to.len] = [.string x.ks[i].low, .int .u64 to.key, .int .i64 to.seg, .int .i64 to.off, .int .i64 to.len] := by
            have hrel'' : (cs'.drop (i * 5)).take 5 = _ := hrel'
            rw [hrel'']
            rfl
          have hos := hset 1 [.int .u64 to.key, .int .i64 to.seg, .int .i64 to.off, .int .i64 to.len] (⟨x.ks[i].low, to⟩ : KidT) (by simp) hq
          have hxs : (dn ++ x.ks.drop i).set i (⟨x.ks[i].low, to⟩ : KidT) = (dn ++ [⟨x.ks[i].low, to⟩]) ++ x.ks.drop (i + 1) := by
            rw [List.drop_eq_getElem_cons hi', List.set_append_right _ _ (by omega), hdn, Nat.sub_self, List.set_cons_zero]
            simp
          rw [hxs] at hos
          refine ih (i + 1) _ _ (by omega) ⟨dn ++ [⟨x.ks[i].low, to⟩], IntKind.i64.wrap (n + m), s3, N3, ?_, by omega, by simp [hdn], P.step hi3 (Mv.set _ (by simp)), ⟨hno3.es.step (Mv.set _ (by simp)), hos⟩, ?_, hmk⟩
          · simp only [sx, argsFr, Sq, SI.wanted, AFr.ev, AFr.evV, AFr.get, AFr.box, AFr.put, AFr.setb, AV.val, callee, evArgs, aBin, aUn, oneCell, cellsOf, Value.cells, evParts, evElems, evAll, fillP, zeros, RetK, resAll, resOf, tupleOf, bnd, intOf?, AFr.keep, RefT.cells, undef, Nat.reduceBEq, Nat.reduceAdd, Nat.reduceMul, Nat.reduceLeDiff, Nat.reduceEqDiff, reduceCtorEq, Int.reduceEq, Int.reduceLT, Int.reduceLE, Int.reduceAdd, Int.reduceSub, wrap_up (show i ≤ 1000000000000000 by omega)]
          · exact hm.trans ((hm3.pre (N1 ++ [b'])).trans (Mv.set _ (by simp)))
      · simp only [sx, argsFr, Sq, SI.wanted, AFr.ev, AFr.evV, AFr.get, AFr.box, AFr.put, AFr.setb, AV.val, callee, evArgs, aBin, aUn, oneCell, cellsOf, Value.cells, evParts, evElems, evAll, fillP, zeros, RetK, resAll, resOf, tupleOf, bnd, intOf?, AFr.keep, RefT.cells, undef, Nat.reduceBEq, Nat.reduceAdd, Nat.reduceMul, Nat.reduceLeDiff, Nat.reduceEqDiff, reduceCtorEq, Int.reduceEq, Int.reduceLT, Int.reduceLE, Int.reduceAdd, Int.reduceSub]
        have hil : i = x.ks.length := by simp at ht; omega
        subst hil
        rw [List.drop_length, moveKids] at hmk
        rw [List.drop_length, List.append_nil] at hno
        obtain ⟨_, _, hcel, hwe, hwk⟩ := hno.rel
        simp only [List.cons.injEq, true_and, and_true] at hcel
        obtain ⟨rfl, rfl⟩ := hcel
        have his0 : P.is D0 N2' σ2 s2 := P.step his ⟨Nat.le_refl _, fun _ _ _ => rfl, fun q _ hq => by simp [hq]⟩
        have hm0 : Mv N σ N2' σ2 := hm.trans ⟨Nat.le_refl _, fun _ _ _ => rfl, fun q _ hq => by simp [hq]⟩
        have hD0 : ∀ q ∈ D0, q < σ2.size := fun q hq => Nat.lt_of_lt_of_le (hD q hq) hm.size
        have hs0 := hs.step (hm0.post D0)
        by_cases hz : n = 0
        · simp only [sx, argsFr, Sq, SI.wanted, AFr.ev, AFr.evV, AFr.get, AFr.box, AFr.put, AFr.setb, AV.val, callee, evArgs, aBin, aUn, oneCell, cellsOf, Value.cells, evParts, evElems, evAll, fillP, zeros, RetK, resAll, resOf, tupleOf, bnd, intOf?, AFr.keep, RefT.cells, undef, Nat.reduceBEq, Nat.reduceAdd, Nat.reduceMul, Nat.reduceLeDiff, Nat.reduceEqDiff, reduceCtorEq, Int.reduceEq, Int.reduceLT, Int.reduceLE, Int.reduceAdd, Int.reduceSub, hz]
          refine Or.inl (c100 hA hs0 ?_)
          by_cases hg : r.seg ∈ segs
          · simp only [sx, argsFr, Sq, SI.wanted, AFr.ev, AFr.evV, AFr.get, AFr.box, AFr.put, AFr.setb, AV.val, callee, evArgs, aBin, aUn, oneCell, cellsOf, Value.cells, evParts, evElems, evAll, fillP, zeros, RetK, resAll, resOf, tupleOf, bnd, intOf?, AFr.keep, RefT.cells, undef, Nat.reduceBEq, Nat.reduceAdd, Nat.reduceMul, Nat.reduceLeDiff, Nat.reduceEqDiff, reduceCtorEq, Int.reduceEq, Int.reduceLT, Int.reduceLE, Int.reduceAdd, Int.reduceSub, hg, P.hw]
            refine Or.inl (P.write (x := ⟨x.leaf, x.es, dn⟩) his0 hwe hwk hD0 (fun e s3 N3 σ3 hr3 he3 hi3 hm3 => ?_) (fun to s3 N3 σ3 hr3 hi3 hm3 => ?_))
            · simp only [sx, argsFr, Sq, SI.wanted, AFr.ev, AFr.evV, AFr.get, AFr.box, AFr.put, AFr.setb, AV.val, callee, evArgs, aBin, aUn, oneCell, cellsOf, Value.cells, evParts, evElems, evAll, fillP, zeros, RetK, resAll, resOf, tupleOf, bnd, intOf?, AFr.keep, RefT.cells, undef, Nat.reduceBEq, Nat.reduceAdd, Nat.reduceMul, Nat.reduceLeDiff, Nat.reduceEqDiff, reduceCtorEq, Int.reduceEq, Int.reduceLT, Int.reduceLE, Int.reduceAdd, Int.reduceSub, he3]
              exact h0 e s3 N3 σ3 (by simp only [moveP, hr, hmk]; rw [if_neg (by simp [hg]), hr3]) he3 hi3 (hm0.trans hm3)
            · simp only [sx, argsFr, Sq, SI.wanted, AFr.ev, AFr.evV, AFr.get, AFr.box, AFr.put, AFr.setb, AV.val, callee, evArgs, aBin, aUn, oneCell, cellsOf, Value.cells, evParts, evElems, evAll, fillP, zeros, RetK, resAll, resOf, tupleOf, bnd, intOf?, AFr.keep, RefT.cells, undef, Nat.reduceBEq, Nat.reduceAdd, Nat.reduceMul, Nat.reduceLeDiff, Nat.reduceEqDiff, reduceCtorEq, Int.reduceEq, Int.reduceLT, Int.reduceLE, Int.reduceAdd, Int.reduceSub]
              exact h1 to _ s3 N3 σ3 (by simp only [moveP, hr, hmk]; rw [if_neg (by simp [hg]), hr3]; subst hz; rfl) hi3 (hm0.trans hm3)
          · simp only [sx, argsFr, Sq, SI.wanted, AFr.ev, AFr.evV, AFr.get, AFr.box, AFr.put, AFr.setb, AV.val, callee, evArgs, aBin, aUn, oneCell, cellsOf, Value.cells, evParts, evElems, evAll, fillP, zeros, RetK, resAll, resOf, tupleOf, bnd, intOf?, AFr.keep, RefT.cells, undef, Nat.reduceBEq, Nat.reduceAdd, Nat.reduceMul, Nat.reduceLeDiff, Nat.reduceEqDiff, reduceCtorEq, Int.reduceEq, Int.reduceLT, Int.reduceLE, Int.reduceAdd, Int.reduceSub, hg]
            exact h1 r 0 s2 N2' σ2 (by simp only [moveP, hr, hmk]; rw [if_pos ⟨hz, hg⟩]) his0 hm0
        · simp only [sx, argsFr, Sq, SI.wanted, AFr.ev, AFr.evV, AFr.get, AFr.box, AFr.put, AFr.setb, AV.val, callee, evArgs, aBin, aUn, oneCell, cellsOf, Value.cells, evParts, evElems, evAll, fillP, zeros, RetK, resAll, resOf, tupleOf, bnd, intOf?, AFr.keep, RefT.cells, undef, Nat.reduceBEq, Nat.reduceAdd, Nat.reduceMul, Nat.reduceLeDiff, Nat.reduceEqDiff, reduceCtorEq, Int.reduceEq, Int.reduceLT, Int.reduceLE, Int.reduceAdd, Int.reduceSub, hz, P.hw]
          refine Or.inl (P.write (x := ⟨x.leaf, x.es, dn⟩) his0 hwe hwk hD0 (fun e s3 N3 σ3 hr3 he3 hi3 hm3 => ?_) (fun to s3 N3 σ3 hr3 hi3 hm3 => ?_))
          · simp only [sx, argsFr, Sq, SI.wanted, AFr.ev, AFr.evV, AFr.get, AFr.box, AFr.put, AFr.setb, AV.val, callee, evArgs, aBin, aUn, oneCell, cellsOf, Value.cells, evParts, evElems, evAll, fillP, zeros, RetK, resAll, resOf, tupleOf, bnd, intOf?, AFr.keep, RefT.cells, undef, Nat.reduceBEq, Nat.reduceAdd, Nat.reduceMul, Nat.reduceLeDiff, Nat.reduceEqDiff, reduceCtorEq, Int.reduceEq, Int.reduceLT, Int.reduceLE, Int.reduceAdd, Int.reduceSub, he3]
            exact h0 e s3 N3 σ3 (by simp only [moveP, hr, hmk]; rw [if_neg (by simp [hz]), hr3]) he3 hi3 (hm0.trans hm3)
          · simp only [sx, argsFr, Sq, SI.wanted, AFr.ev, AFr.evV, AFr.get, AFr.box, AFr.put, AFr.setb, AV.val, callee, evArgs, aBin, aUn, oneCell, cellsOf, Value.cells, evParts, evElems, evAll, fillP, zeros, RetK, resAll, resOf, tupleOf, bnd, intOf?, AFr.keep, RefT.cells, undef, Nat.reduceBEq, Nat.reduceAdd, Nat.reduceMul, Nat.reduceLeDiff, Nat.reduceEqDiff, reduceCtorEq, Int.reduceEq, Int.reduceLT, Int.reduceLE, Int.reduceAdd, Int.reduceSub]
            exact h1 to _ s3 N3 σ3 (by simp only [moveP, hr, hmk]; rw [if_neg (by simp [hz]), hr3]) hi3 (hm0.trans hm3)

include hA in
theorem c20 {D0 N σ s v} {r : RefT} {segs : List Int} (hh : P.is D0 N σ s) (hs : SlR intK (N ++ D0) σ v segs) (hD : ∀ b ∈ D0, b < σ.size) {R : Value → AHeap → Prop}
    (h0 : ∀ e s' N' σ', moveP P segs 8 s r = (.error e, s') → e ≠ 0 → P.is D0 N' σ' s' → Mv N σ N' σ' → R (.tuple #[.agg #[.int .u64 0, .int .i64 0, .int .i64 0, .int .i64 0], .int .i64 0, .int .i64 e]) σ')
    (h1 : ∀ to n s' N' σ', moveP P segs 8 s r = (.ok (to, n), s') → P.is D0 N' σ' s' → Mv N σ N' σ' →
      R (.tuple #[.agg #[.int .u64 to.key, .int .i64 to.seg, .int .i64 to.off, .int .i64 to.len], .int .i64 n, .int .i64 0]) σ') :
    C A 20 [.iface P.ti P.pv, .agg #[.int .u64 r.key, .int .i64 r.seg, .int .i64 r.off, .int .i64 r.len], v] σ R := by
  refine C_fn s20 (hA.at rfl) ?_
  obtain ⟨base, c, rfl⟩ := hs.shape
  simp only [s20, sx, argsFr, Sq, SI.wanted, AFr.ev, AFr.evV, AFr.get, AFr.box, AFr.put, AFr.setb, AV.val, callee, evArgs, aBin, aUn, oneCell, cellsOf, Value.cells, evParts, evElems, evAll, fillP, zeros, RetK, resAll, resOf, tupleOf, bnd, intOf?, AFr.keep, RefT.cells, undef, Nat.reduceBEq, Nat.reduceAdd, Nat.reduceMul, Nat.reduceLeDiff, Nat.reduceEqDiff, reduceCtorEq, Int.reduceEq, Int.reduceLT, Int.reduceLE, Int.reduceAdd, Int.reduceSub]
  refine Or.inl (c59 hA P 8 (deep := 1) rfl hh hs hD (fun e s' N' σ1 hr he hi hm => ?_) (fun to n s' N' σ1 hr hi hm => ?_))
  · simp only [sx, argsFr, Sq, SI.wanted, AFr.ev, AFr.evV, AFr.get, AFr.box, AFr.put, AFr.setb, AV.val, callee, evArgs, aBin, aUn, oneCell, cellsOf, Value.cells, evParts, evElems, evAll, fillP, zeros, RetK, resAll, resOf, tupleOf, bnd, intOf?, AFr.keep, RefT.cells, undef, Nat.reduceBEq, Nat.reduceAdd, Nat.reduceMul, Nat.reduceLeDiff, Nat.reduceEqDiff, reduceCtorEq, Int.reduceEq, Int.reduceLT, Int.reduceLE, Int.reduceAdd, Int.reduceSub]
    exact h0 e s' N' σ1 hr he hi hm
  · simp only [sx, argsFr, Sq, SI.wanted, AFr.ev, AFr.evV, AFr.get, AFr.box, AFr.put, AFr.setb, AV.val, callee, evArgs, aBin, aUn, oneCell, cellsOf, Value.cells, evParts, evElems, evAll, fillP, zeros, RetK, resAll, resOf, tupleOf, bnd, intOf?, AFr.keep, RefT.cells, undef, Nat.reduceBEq, Nat.reduceAdd, Nat.reduceMul, Nat.reduceLeDiff, Nat.reduceEqDiff, reduceCtorEq, Int.reduceEq, Int.reduceLT, Int.reduceLE, Int.reduceAdd, Int.reduceSub]
    exact h1 to n s' N' σ1 hr hi hm

include hA in
theorem c14 {D0 N σ s} (hh : P.is D0 N σ s) (hD : ∀ b ∈ D0, b < σ.size) {R : Value → AHeap → Prop}
    (h0 : ∀ e s' N' σ', P.wr s ⟨true, [], []⟩ = (.error e, s') → e ≠ 0 → P.is D0 N' σ' s' → Mv N σ N' σ' → R (.tuple #[.agg #[.int .u64 0, .int .i64 0, .int .i64 0, .int .i64 0], .int .i64 e]) σ')
    (h1 : ∀ r s' N' σ', P.wr s ⟨true, [], []⟩ = (.ok r, s') → P.is D0 N' σ' s' → Mv N σ N' σ' → R (.tuple #[.agg #[.int .u64 r.key, .int .i64 r.seg, .int .i64 r.off, .int .i64 r.len], .int .i64 0]) σ') :
    C A 14 [.iface P.ti P.pv] σ R := by
  refine C_fn s14 (hA.at rfl) ?_
  simp only [s14, sx, argsFr, Sq, SI.wanted, AFr.ev, AFr.evV, AFr.get, AFr.box, AFr.put, AFr.setb, AV.val, callee, evArgs, aBin, aUn, oneCell, cellsOf, Value.cells, evParts, evElems, evAll, fillP, zeros, RetK, resAll, resOf, tupleOf, bnd, intOf?, AFr.keep, RefT.cells, undef, Nat.reduceBEq, Nat.reduceAdd, Nat.reduceMul, Nat.reduceLeDiff, Nat.reduceEqDiff, reduceCtorEq, Int.reduceEq, Int.reduceLT, Int.reduceLE, Int.reduceAdd, Int.reduceSub, P.hw]
  refine Or.inl (P.write (x := ⟨true, [], []⟩) hh .nil .nil hD (fun e s' N' σ1 hr he hi hm => ?_) (fun r s' N' σ1 hr hi hm => ?_))
  · simp only [sx, argsFr, Sq, SI.wanted, AFr.ev, AFr.evV, AFr.get, AFr.box, AFr.put, AFr.setb, AV.val, callee, evArgs, aBin, aUn, oneCell, cellsOf, Value.cells, evParts, evElems, evAll, fillP, zeros, RetK, resAll, resOf, tupleOf, bnd, intOf?, AFr.keep, RefT.cells, undef, Nat.reduceBEq, Nat.reduceAdd, Nat.reduceMul, Nat.reduceLeDiff, Nat.reduceEqDiff, reduceCtorEq, Int.reduceEq, Int.reduceLT, Int.reduceLE, Int.reduceAdd, Int.reduceSub]
    exact h0 e s' N' σ1 hr he hi hm
  · simp only [sx, argsFr, Sq, SI.wanted, AFr.ev, AFr.evV, AFr.get, AFr.box, AFr.put, AFr.setb, AV.val, callee, evArgs, aBin, aUn, oneCell, cellsOf, Value.cells, evParts, evElems, evAll, fillP, zeros, RetK, resAll, resOf, tupleOf, bnd, intOf?, AFr.keep, RefT.cells, undef, Nat.reduceBEq, Nat.reduceAdd, Nat.reduceMul, Nat.reduceLeDiff, Nat.reduceEqDiff, reduceCtorEq, Int.reduceEq, Int.reduceLT, Int.reduceLE, Int.reduceAdd, Int.reduceSub]
    exact h1 r s' N' σ1 hr hi hm
end
end Go.Proofs.Ytbldkkabkijpgaa

namespace Go.Proofs.Ytbldkkabkijpgaa
open Go.Am

set_option linter.unusedSimpArgs false
section
variable {A : AProg} (hA : Prg A)
variable {S : Type} (P : Store A S)

def allKids (rec : S → List SeenT → RefT → Except Int (List SeenT) × S) : S → List SeenT → List KidT → Except Int (List SeenT) × S
  | s, l, [] => (.ok l, s)
  | s, l, k :: r =>
    match rec s l k.ref with
    | (.error e, s') => (.error e, s')
    | (.ok l', s') => allKids rec s' l' r

/-- A page and what is below it, behind others; the number: 9 less how deep it is. -/
def allP : Nat → S → List SeenT → RefT → Except Int (List SeenT) × S
  | 0, s, _, _ => (.error 70, s)
  | u + 1, s, l, r =>
    match atP P s r (8 - u) with
    | (.error e, s') => (.error e, s')
    | (.ok x, s') => allKids (allP u) s' (l ++ [⟨(8 - u : Nat), r, x⟩]) x.ks

theorem allKids_len {rec : S → List SeenT → RefT → Except Int (List SeenT) × S} (hr : ∀ s l r l' s', rec s l r = (.ok l', s') → l.length ≤ l'.length) :
    ∀ (ks : List KidT) (s : S) (l l' : List SeenT) (s' : S), allKids rec s l ks = (.ok l', s') → l.length ≤ l'.length
  | [], s, l, l', s', h => by simp [allKids] at h; rw [h.1]; exact Nat.le_refl _
  | k :: ks, s, l, l', s', h => by
    simp only [allKids] at h
    split at h
    · simp at h
    · rename_i l2 s2 h2
      exact Nat.le_trans (hr _ _ _ _ _ h2) (allKids_len hr ks _ _ _ _ h)

theorem allP_len : ∀ (u : Nat) (s : S) (l : List SeenT) (r : RefT) (l' : List SeenT) (s' : S), allP P u s l r = (.ok l', s') → l.length + 1 ≤ l'.length
  | 0, s, l, r, l', s', h => by simp [allP] at h
  | u + 1, s, l, r, l', s', h => by
    simp only [allP] at h
    split at h
    · simp at h
    · have := allKids_len (fun s l r l' s' h => Nat.le_of_succ_le (allP_len u s l r l' s' h)) _ _ _ _ _ h
      simpa using this

include hA in
theorem c58 : ∀ (u : Nat) {D0 N Nl σ s v} {r : RefT} {deep : Nat} {l l' : List SeenT} {s' : S}, deep + u = 9 → P.is (Nl ++ D0) N σ s → Own seenK (N ++ D0) σ Nl v l → (∀ b ∈ D0, b < σ.size) →
    allP P u s l r = (.ok l', s') → l'.length ≤ 1000000000 → ∀ {R : Value → AHeap → Prop},
    (∀ v' Nl' N' σ', P.is (Nl' ++ D0) N' σ' s' → Own seenK (N' ++ D0) σ' Nl' v' l' → Mv (Nl ++ N) σ (Nl' ++ N') σ' → R (.tuple #[v', .int .i64 0]) σ') →
    C A 58 [.agg #[.iface P.ti P.pv], v, .agg #[.int .u64 r.key, .int .i64 r.seg, .int .i64 r.off, .int .i64 r.len], .int .i64 deep] σ R := by
  intro u
  induction u with
  | zero =>
    intro D0 N Nl σ s v r deep l l' s' hu hh ho hD hok
    simp [allP] at hok
  | succ u ihu =>
    intro D0 N Nl σ s v r deep l l' s' hu hh ho hD hok hbd R h1
    have hdeep : deep = 8 - u := by omega
    subst hdeep
    have hll := allP_len P _ _ _ _ _ _ hok
    refine C_fn s58 (hA.at rfl) ?_
    obtain ⟨base, c, rfl⟩ := ho.shape
    simp only [s58, sx, argsFr, Sq, SI.wanted, AFr.ev, AFr.evV, AFr.get, AFr.box, AFr.put, AFr.setb, AV.val, callee, evArgs, aBin, aUn, oneCell, cellsOf, Value.cells, evParts, evElems, evAll, fillP, zeros, RetK, resAll, resOf, tupleOf, bnd, intOf?, AFr.keep, RefT.cells, undef, Nat.reduceBEq, Nat.reduceAdd, Nat.reduceMul, Nat.reduceLeDiff, Nat.reduceEqDiff, reduceCtorEq, Int.reduceEq, Int.reduceLT, Int.reduceLE, Int.reduceAdd, Int.reduceSub]
    simp only [allP] at hok
    refine Or.inl (c83 hA P hh (lt_app ho.lt hD (Nat.le_refl _)) (fun e s1 N' σ1 hr he hi hm => ?_) (fun x s1 ve vk N1 N2 N' σ1 hr hi hn hm => ?_))
    · rw [hr] at hok
      simp at hok
    · rw [hr] at hok
      simp only at hok
      obtain ⟨_, _, hcel, hwe, hwk⟩ := hn.rel
      simp only [List.cons.injEq, true_and, and_true] at hcel
      obtain ⟨rfl, rfl⟩ := hcel
      obtain ⟨b3, c3, rfl⟩ := hwe.shape
      obtain ⟨b4, c4, rfl⟩ := hwk.shape
      have hmx := hwk.bound
      unfold maxN at hmx
      have hi0 : P.is (Nl ++ D0) N' σ1 s1 := P.step hi ⟨Nat.le_refl _, fun _ _ _ => rfl, fun q _ hq => by simp at hq ⊢; grind⟩
      have ho1 := ho.step (hm.mono (E := N ++ D0) (E' := N' ++ D0) (fun b hb => by simp [hb]) (fun b hb => by simp only [List.mem_append] at hb ⊢; grind))
      have hDN : ∀ b ∈ N' ++ (Nl ++ D0), b < σ1.size := lt_app (fun b hb => P.lt hi0 b hb) (lt_app ho1.lt hD hm.size) (Nat.le_refl _)
      simp only [sx, argsFr, Sq, SI.wanted, AFr.ev, AFr.evV, AFr.get, AFr.box, AFr.put, AFr.setb, AV.val, callee, evArgs, aBin, aUn, oneCell, cellsOf, Value.cells, evParts, evElems, evAll, fillP, zeros, RetK, resAll, resOf, tupleOf, bnd, intOf?, AFr.keep, RefT.cells, undef, Nat.reduceBEq, Nat.reduceAdd, Nat.reduceMul, Nat.reduceLeDiff, Nat.reduceEqDiff, reduceCtorEq, Int.reduceEq, Int.reduceLT, Int.reduceLE, Int.reduceAdd, Int.reduceSub]
      refine Or.inl (c99 hA hwe hwk hDN (fun ve' vk' M1 M2 σ2 hn2 hm2 => ?_))
      obtain ⟨_, _, hcel, hve, hvk⟩ := hn2.rel
      simp only [List.cons.injEq, true_and, and_true] at hcel
      obtain ⟨rfl, rfl⟩ := hcel
      obtain ⟨b5, c5, rfl⟩ := hve.shape
      obtain ⟨b6, c6, rfl⟩ := hvk.shape
      have hre : Mv (N' ++ (Nl ++ D0)) σ2 (Nl ++ (N' ++ D0)) σ2 := ⟨Nat.le_refl _, fun _ _ _ => rfl, fun q _ hq => by simp only [List.mem_append] at hq ⊢; grind⟩
      simp only [sx, argsFr, Sq, SI.wanted, AFr.ev, AFr.evV, AFr.get, AFr.box, AFr.put, AFr.setb, AV.val, callee, evArgs, aBin, aUn, oneCell, cellsOf, Value.cells, evParts, evElems, evAll, fillP, zeros, RetK, resAll, resOf, tupleOf, bnd, intOf?, AFr.keep, RefT.cells, undef, Nat.reduceBEq, Nat.reduceAdd, Nat.reduceMul, Nat.reduceLeDiff, Nat.reduceEqDiff, reduceCtorEq, Int.reduceEq, Int.reduceLT, Int.reduceLE, Int.reduceAdd, Int.reduceSub]
      refine Sr_app (K := seenK) (D := N' ++ D0) (N := Nl) (ys := [⟨(8 - u : Nat), r, x⟩]) (new := [.int .i64 (8 - u : Nat), .int .u64 r.key, .int .i64 r.seg, .int .i64 r.off, .int .i64 r.len, .bool x.leaf, .slice b5 x.es.length c5, .slice b6 x.ks.length c6])
        (by simp only [sx, argsFr, Sq, SI.wanted, AFr.ev, AFr.evV, AFr.get, AFr.box, AFr.put, AFr.setb, AV.val, callee, evArgs, aBin, aUn, oneCell, cellsOf, Value.cells, evParts, evElems, evAll, fillP, zeros, RetK, resAll, resOf, tupleOf, bnd, intOf?, AFr.keep, RefT.cells, undef, Nat.reduceBEq, Nat.reduceAdd, Nat.reduceMul, Nat.reduceLeDiff, Nat.reduceEqDiff, reduceCtorEq, Int.reduceEq, Int.reduceLT, Int.reduceLE, Int.reduceAdd, Int.reduceSub]) (ho1.step (hm2.any _)) rfl (by decide) (by simp [srcOf, AFr.ev, AFr.get, AFr.put, List.lookup]) rfl (Kd.list_one ⟨_, _, rfl, hve.step hre, hvk.step hre⟩)
        rfl (by unfold maxN; simp only [List.length_singleton]; omega) (fun v' Nl' σ3 ho3 hm3 => ?_) (fun b hb => Nat.lt_of_lt_of_le (hDN b (by simp only [List.mem_append] at hb ⊢; grind)) hm2.size)
      simp only [sx, argsFr, Sq, SI.wanted, AFr.ev, AFr.evV, AFr.get, AFr.box, AFr.put, AFr.setb, AV.val, callee, evArgs, aBin, aUn, oneCell, cellsOf, Value.cells, evParts, evElems, evAll, fillP, zeros, RetK, resAll, resOf, tupleOf, bnd, intOf?, AFr.keep, RefT.cells, undef, Nat.reduceBEq, Nat.reduceAdd, Nat.reduceMul, Nat.reduceLeDiff, Nat.reduceEqDiff, reduceCtorEq, Int.reduceEq, Int.reduceLT, Int.reduceLE, Int.reduceAdd, Int.reduceSub]
      have hmA : Mv (Nl ++ N) σ (Nl' ++ N') σ3 :=
        (hm.mono (E := Nl ++ N) (E' := Nl ++ N') (fun b hb => by simp [hb]) (fun b hb => by simp only [List.mem_append] at hb ⊢; grind)).trans ((hm2.any (Nl ++ N')).trans (hm3.post N'))
      have hk3 : SlR kidK (N' ++ (Nl' ++ D0)) σ3 (.slice b4 x.ks.length c4) x.ks := hwk.step ((hm2.any _).trans ((hm3.post D0).pre N'))
      refine ⟨rfl, ?_⟩
      refine Lp_ind (fun i => x.ks.length - i) (fun i f σ4 => ∃ v l2 s2 Nl2 N2', f.keep [1, 3, 4, 35, 36, 37] [4] =
          some ⟨[(1, .v v), (3, .v (.int .i64 (8 - u : Nat))), (4, .l 4 0), (35, .v (.slice b4 x.ks.length c4)), (36, .v (.int .i64 x.ks.length)), (37, .v (.int .i64 i))], [(4, [.iface P.ti P.pv])]⟩ ∧
        i ≤ x.ks.length ∧ P.is (Nl2 ++ D0) N2' σ4 s2 ∧ Own seenK (N2' ++ D0) σ4 Nl2 v l2 ∧ SlR kidK (N2' ++ (Nl2 ++ D0)) σ4 (.slice b4 x.ks.length c4) x.ks ∧ Mv (Nl ++ N) σ (Nl2 ++ N2') σ4 ∧
        allKids (allP P u) s2 l2 (x.ks.drop i) = (.ok l', s')) ?_ 0 _ _ ⟨v', _, s1, Nl', N', rfl, Nat.zero_le _, P.step hi0 ((hm2.any _).trans (hm3.post D0)), ho3, hk3, hmA, hok⟩
      rintro i f σ4 ⟨v, l2, s2, Nl2, N2', hkp, hi, his, ho4, hk4, hm4, hak⟩ ih
      obtain ⟨b7, c7, rfl⟩ := ho4.shape
      rw [St_seq, St_keep hkp]
      simp only [sx, argsFr, Sq, SI.wanted, AFr.ev, AFr.evV, AFr.get, AFr.box, AFr.put, AFr.setb, AV.val, callee, evArgs, aBin, aUn, oneCell, cellsOf, Value.cells, evParts, evElems, evAll, fillP, zeros, RetK, resAll, resOf, tupleOf, bnd, intOf?, AFr.keep, RefT.cells, undef, Nat.reduceBEq, Nat.reduceAdd, Nat.reduceMul, Nat.reduceLeDiff, Nat.reduceEqDiff, reduceCtorEq, Int.reduceEq, Int.reduceLT, Int.reduceLE, Int.reduceAdd, Int.reduceSub]
      refine Cd_split (fun ht => ?_) (fun ht => ?_)
      · have hi' : i < x.ks.length := by simpa using ht
        obtain ⟨b, off, cs, e, m, cells, rfl, hb, hcut, rfl⟩ := hk4.atN (j := 5) rfl (List.getElem?_eq_getElem hi')
        rw [List.drop_eq_getElem_cons hi', allKids] at hak
        have hwd : IntKind.i64.wrap (((8 - u : Nat) : Int) + 1) = ((8 - u + 1 : Nat) : Int) := wrap_up (by omega)
        simp only [sx, argsFr, Sq, SI.wanted, AFr.ev, AFr.evV, AFr.get, AFr.box, AFr.put, AFr.setb, AV.val, callee, evArgs, aBin, aUn, oneCell, cellsOf, Value.cells, evParts, evElems, evAll, fillP, zeros, RetK, resAll, resOf, tupleOf, bnd, intOf?, AFr.keep, RefT.cells, undef, Nat.reduceBEq, Nat.reduceAdd, Nat.reduceMul, Nat.reduceLeDiff, Nat.reduceEqDiff, reduceCtorEq, Int.reduceEq, Int.reduceLT, Int.reduceLE, Int.reduceAdd, Int.reduceSub, hi', hb, hcut, hwd]
        cases hrc : allP P u s2 l2 x.ks[i].ref with
        | mk o s3 =>
          rw [hrc] at hak
          cases o with
          | error e => simp at hak
          | ok l3 =>
            simp only at hak
            have hl3 := allKids_len (fun s l r l' s' h => Nat.le_of_succ_le (allP_len P u s l r l' s' h)) _ _ _ _ _ hak
            refine Or.inl (ihu (by omega) his ho4 (fun b hb => Nat.lt_of_lt_of_le (hD b hb) hm4.size) hrc (by omega) (fun v5 Nl3 N3 σ5 hi5 ho5 hm5 => ?_))
            simp only [sx, argsFr, Sq, SI.wanted, AFr.ev, AFr.evV, AFr.get, AFr.box, AFr.put, AFr.setb, AV.val, callee, evArgs, aBin, aUn, oneCell, cellsOf, Value.cells, evParts, evElems, evAll, fillP, zeros, RetK, resAll, resOf, tupleOf, bnd, intOf?, AFr.keep, RefT.cells, undef, Nat.reduceBEq, Nat.reduceAdd, Nat.reduceMul, Nat.reduceLeDiff, Nat.reduceEqDiff, reduceCtorEq, Int.reduceEq, Int.reduceLT, Int.reduceLE, Int.reduceAdd, Int.reduceSub]
            refine ih (i + 1) _ _ (by omega) ⟨v5, l3, s3, Nl3, N3, ?_, by omega, hi5, ho5, hk4.step (hm5.mono (fun b hb => by simp only [List.mem_append] at hb ⊢; grind) (fun b hb => by simp only [List.mem_append] at hb ⊢; grind)), hm4.trans hm5, hak⟩
            simp only [sx, argsFr, Sq, SI.wanted, AFr.ev, AFr.evV, AFr.get, AFr.box, AFr.put, AFr.setb, AV.val, callee, evArgs, aBin, aUn, oneCell, cellsOf, Value.cells, evParts, evElems, evAll, fillP, zeros, RetK, resAll, resOf, tupleOf, bnd, intOf?, AFr.keep, RefT.cells, undef, Nat.reduceBEq, Nat.reduceAdd, Nat.reduceMul, Nat.reduceLeDiff, Nat.reduceEqDiff, reduceCtorEq, Int.reduceEq, Int.reduceLT, Int.reduceLE, Int.reduceAdd, Int.reduceSub, wrap_up (show i ≤ 1000000000000000 by omega)]
      · simp only [sx, argsFr, Sq, SI.wanted, AFr.ev, AFr.evV, AFr.get, AFr.box, AFr.put, AFr.setb, AV.val, callee, evArgs, aBin, aUn, oneCell, cellsOf, Value.cells, evParts, evElems, evAll, fillP, zeros, RetK, resAll, resOf, tupleOf, bnd, intOf?, AFr.keep, RefT.cells, undef, Nat.reduceBEq, Nat.reduceAdd, Nat.reduceMul, Nat.reduceLeDiff, Nat.reduceEqDiff, reduceCtorEq, Int.reduceEq, Int.reduceLT, Int.reduceLE, Int.reduceAdd, Int.reduceSub]
        have hil : i = x.ks.length := by simp at ht; omega
        subst hil
        rw [List.drop_length, allKids] at hak
        simp only [Prod.mk.injEq, Except.ok.injEq] at hak
        obtain ⟨rfl, rfl⟩ := hak
        exact h1 _ Nl2 N2' σ4 his ho4 hm4

include hA in
theorem c18 {D0 N σ s} {r : RefT} {l' : List SeenT} {s' : S} (hh : P.is D0 N σ s) (hD : ∀ b ∈ D0, b < σ.size) (hok : allP P 8 s [] r = (.ok l', s')) (hbd : l'.length ≤ 1000000000) {R : Value → AHeap → Prop}
    (h1 : ∀ v' Nl' N' σ', P.is (Nl' ++ D0) N' σ' s' → Own seenK (N' ++ D0) σ' Nl' v' l' → Mv N σ (Nl' ++ N') σ' → R (.tuple #[v', .int .i64 0]) σ') :
    C A 18 [.iface P.ti P.pv, .agg #[.int .u64 r.key, .int .i64 r.seg, .int .i64 r.off, .int .i64 r.len]] σ R := by
  refine C_fn s18 (hA.at rfl) ?_
  simp only [s18, sx, argsFr, Sq, SI.wanted, AFr.ev, AFr.evV, AFr.get, AFr.box, AFr.put, AFr.setb, AV.val, callee, evArgs, aBin, aUn, oneCell, cellsOf, Value.cells, evParts, evElems, evAll, fillP, zeros, RetK, resAll, resOf, tupleOf, bnd, intOf?, AFr.keep, RefT.cells, undef, Nat.reduceBEq, Nat.reduceAdd, Nat.reduceMul, Nat.reduceLeDiff, Nat.reduceEqDiff, reduceCtorEq, Int.reduceEq, Int.reduceLT, Int.reduceLE, Int.reduceAdd, Int.reduceSub]
  refine Or.inl (c58 hA P 8 (deep := 1) (Nl := []) rfl hh .nil hD hok hbd (fun v' Nl' N' σ' hi ho hm => ?_))
  simp only [sx, argsFr, Sq, SI.wanted, AFr.ev, AFr.evV, AFr.get, AFr.box, AFr.put, AFr.setb, AV.val, callee, evArgs, aBin, aUn, oneCell, cellsOf, Value.cells, evParts, evElems, evAll, fillP, zeros, RetK, resAll, resOf, tupleOf, bnd, intOf?, AFr.keep, RefT.cells, undef, Nat.reduceBEq, Nat.reduceAdd, Nat.reduceMul, Nat.reduceLeDiff, Nat.reduceEqDiff, reduceCtorEq, Int.reduceEq, Int.reduceLT, Int.reduceLE, Int.reduceAdd, Int.reduceSub]
  exact h1 v' Nl' N' σ' hi ho hm
end
end Go.Proofs.Ytbldkkabkijpgaa

namespace Go.Proofs.Ytbldkkabkijpgaa
open Go.Am

/-- A part's first half, the greater one, and the rest. -/
def halvesP (x : NodeT) : List NodeT :=
  if x.leaf then [⟨true, x.es.take ((sizeP x + 1) / 2), []⟩, ⟨true, x.es.drop ((sizeP x + 1) / 2), []⟩]
  else [⟨false, [], x.ks.take ((sizeP x + 1) / 2)⟩, ⟨false, [], x.ks.drop ((sizeP x + 1) / 2)⟩]

set_option linter.unusedSimpArgs false
section
variable {A : AProg} (hA : Prg A)
include hA

theorem c97 {D N1 N2 σ ve vk} {x : NodeT} (hn : NodeO D N1 N2 σ ve vk x) (hD : ∀ b ∈ D, b < σ.size) {R : Value → AHeap → Prop}
    (hR : ∀ v' σ', SlR nodeK D σ' v' (halvesP x) → Mv [] σ [] σ' → R v' σ') : C A 97 [.agg #[.bool x.leaf, ve, vk]] σ R := by
  refine C_fn s97 (hA.at rfl) ?_
  obtain ⟨_, _, hcel, hwe, hwk⟩ := hn.rel
  simp only [List.cons.injEq, true_and, and_true] at hcel
  obtain ⟨rfl, rfl⟩ := hcel
  obtain ⟨b3, c3, rfl⟩ := hwe.shape
  obtain ⟨b4, c4, rfl⟩ := hwk.shape
  have hm1 := hwe.bound
  have hm2 := hwk.bound
  unfold maxN at hm1 hm2
  have hsz : sizeP x ≤ 140737488355328 := by unfold sizeP; split <;> omega
  have hw1 : IntKind.i64.wrap ((sizeP x : Int) + 1) = ((sizeP x + 1 : Nat) : Int) := wrap_up (by omega)
  have hw2 : IntKind.i64.wrap (((sizeP x + 1 : Nat) : Int).tdiv 2) = (((sizeP x + 1) / 2 : Nat) : Int) := wrap_n (n := (sizeP x + 1) / 2) (by omega)
  have sh : ∀ {X : List Nat} {τ : AHeap}, Mv (X ++ D) τ D τ := fun {X τ} => ⟨Nat.le_refl _, fun _ _ _ => rfl, fun q _ hq => by simp [hq]⟩
  simp only [s97, sx, argsFr, Sq, SI.wanted, AFr.ev, AFr.evV, AFr.get, AFr.box, AFr.put, AFr.setb, AV.val, callee, evArgs, aBin, aUn, oneCell, cellsOf, Value.cells, evParts, evElems, evAll, fillP, zeros, RetK, resAll, resOf, tupleOf, bnd, intOf?, AFr.keep, RefT.cells, undef, Nat.reduceBEq, Nat.reduceAdd, Nat.reduceMul, Nat.reduceLeDiff, Nat.reduceEqDiff, reduceCtorEq, Int.reduceEq, Int.reduceLT, Int.reduceLE, Int.reduceAdd, Int.reduceSub]
  refine Or.inl (c96 hA hwe hwk ?_)
  simp only [sx, argsFr, Sq, SI.wanted, AFr.ev, AFr.evV, AFr.get, AFr.box, AFr.put, AFr.setb, AV.val, callee, evArgs, aBin, aUn, oneCell, cellsOf, Value.cells, evParts, evElems, evAll, fillP, zeros, RetK, resAll, resOf, tupleOf, bnd, intOf?, AFr.keep, RefT.cells, undef, Nat.reduceBEq, Nat.reduceAdd, Nat.reduceMul, Nat.reduceLeDiff, Nat.reduceEqDiff, reduceCtorEq, Int.reduceEq, Int.reduceLT, Int.reduceLE, Int.reduceAdd, Int.reduceSub, hw1, hw2]
  refine ⟨rfl, ?_⟩
  cases hl : x.leaf with
  | true =>
    have hle : (sizeP x + 1) / 2 ≤ x.es.length := by simp only [sizeP, hl, if_true]; omega
    simp only [sx, argsFr, Sq, SI.wanted, AFr.ev, AFr.evV, AFr.get, AFr.box, AFr.put, AFr.setb, AV.val, callee, evArgs, aBin, aUn, oneCell, cellsOf, Value.cells, evParts, evElems, evAll, fillP, zeros, RetK, resAll, resOf, tupleOf, bnd, intOf?, AFr.keep, RefT.cells, undef, Nat.reduceBEq, Nat.reduceAdd, Nat.reduceMul, Nat.reduceLeDiff, Nat.reduceEqDiff, reduceCtorEq, Int.reduceEq, Int.reduceLT, Int.reduceLE, Int.reduceAdd, Int.reduceSub]
    refine Sr_hi (kd := .i64) hn.es rfl (by decide) (by simp only [sx, argsFr, Sq, SI.wanted, AFr.ev, AFr.evV, AFr.get, AFr.box, AFr.put, AFr.setb, AV.val, callee, evArgs, aBin, aUn, oneCell, cellsOf, Value.cells, evParts, evElems, evAll, fillP, zeros, RetK, resAll, resOf, tupleOf, bnd, intOf?, AFr.keep, RefT.cells, undef, Nat.reduceBEq, Nat.reduceAdd, Nat.reduceMul, Nat.reduceLeDiff, Nat.reduceEqDiff, reduceCtorEq, Int.reduceEq, Int.reduceLT, Int.reduceLE, Int.reduceAdd, Int.reduceSub]) (by simp only [sx, argsFr, Sq, SI.wanted, AFr.ev, AFr.evV, AFr.get, AFr.box, AFr.put, AFr.setb, AV.val, callee, evArgs, aBin, aUn, oneCell, cellsOf, Value.cells, evParts, evElems, evAll, fillP, zeros, RetK, resAll, resOf, tupleOf, bnd, intOf?, AFr.keep, RefT.cells, undef, Nat.reduceBEq, Nat.reduceAdd, Nat.reduceMul, Nat.reduceLeDiff, Nat.reduceEqDiff, reduceCtorEq, Int.reduceEq, Int.reduceLT, Int.reduceLE, Int.reduceAdd, Int.reduceSub]) hle (fun v1 h1 => ?_)
    simp only [sx, argsFr, Sq, SI.wanted, AFr.ev, AFr.evV, AFr.get, AFr.box, AFr.put, AFr.setb, AV.val, callee, evArgs, aBin, aUn, oneCell, cellsOf, Value.cells, evParts, evElems, evAll, fillP, zeros, RetK, resAll, resOf, tupleOf, bnd, intOf?, AFr.keep, RefT.cells, undef, Nat.reduceBEq, Nat.reduceAdd, Nat.reduceMul, Nat.reduceLeDiff, Nat.reduceEqDiff, reduceCtorEq, Int.reduceEq, Int.reduceLT, Int.reduceLE, Int.reduceAdd, Int.reduceSub]
    refine Or.inl (c127 hA (h1.step sh) hD (fun v2 M1 σ1 ho1 hm3 => ?_))
    obtain ⟨b5, c5, rfl⟩ := ho1.shape
    simp only [sx, argsFr, Sq, SI.wanted, AFr.ev, AFr.evV, AFr.get, AFr.box, AFr.put, AFr.setb, AV.val, callee, evArgs, aBin, aUn, oneCell, cellsOf, Value.cells, evParts, evElems, evAll, fillP, zeros, RetK, resAll, resOf, tupleOf, bnd, intOf?, AFr.keep, RefT.cells, undef, Nat.reduceBEq, Nat.reduceAdd, Nat.reduceMul, Nat.reduceLeDiff, Nat.reduceEqDiff, reduceCtorEq, Int.reduceEq, Int.reduceLT, Int.reduceLE, Int.reduceAdd, Int.reduceSub]
    refine Sr_lo (kd := .i64) (hn.es.step (hm3.any _)) rfl (by decide) (by simp only [sx, argsFr, Sq, SI.wanted, AFr.ev, AFr.evV, AFr.get, AFr.box, AFr.put, AFr.setb, AV.val, callee, evArgs, aBin, aUn, oneCell, cellsOf, Value.cells, evParts, evElems, evAll, fillP, zeros, RetK, resAll, resOf, tupleOf, bnd, intOf?, AFr.keep, RefT.cells, undef, Nat.reduceBEq, Nat.reduceAdd, Nat.reduceMul, Nat.reduceLeDiff, Nat.reduceEqDiff, reduceCtorEq, Int.reduceEq, Int.reduceLT, Int.reduceLE, Int.reduceAdd, Int.reduceSub]) (by simp only [sx, argsFr, Sq, SI.wanted, AFr.ev, AFr.evV, AFr.get, AFr.box, AFr.put, AFr.setb, AV.val, callee, evArgs, aBin, aUn, oneCell, cellsOf, Value.cells, evParts, evElems, evAll, fillP, zeros, RetK, resAll, resOf, tupleOf, bnd, intOf?, AFr.keep, RefT.cells, undef, Nat.reduceBEq, Nat.reduceAdd, Nat.reduceMul, Nat.reduceLeDiff, Nat.reduceEqDiff, reduceCtorEq, Int.reduceEq, Int.reduceLT, Int.reduceLE, Int.reduceAdd, Int.reduceSub]) hle (fun v3 h3 => ?_)
    simp only [sx, argsFr, Sq, SI.wanted, AFr.ev, AFr.evV, AFr.get, AFr.box, AFr.put, AFr.setb, AV.val, callee, evArgs, aBin, aUn, oneCell, cellsOf, Value.cells, evParts, evElems, evAll, fillP, zeros, RetK, resAll, resOf, tupleOf, bnd, intOf?, AFr.keep, RefT.cells, undef, Nat.reduceBEq, Nat.reduceAdd, Nat.reduceMul, Nat.reduceLeDiff, Nat.reduceEqDiff, reduceCtorEq, Int.reduceEq, Int.reduceLT, Int.reduceLE, Int.reduceAdd, Int.reduceSub]
    have hD1 : ∀ b ∈ M1 ++ D, b < σ1.size := lt_app ho1.lt hD hm3.size
    refine Or.inl (c127 hA (h3.step sh) (fun b hb => Nat.lt_of_lt_of_le (hD b hb) hm3.size) (fun v4 M2 σ2 ho2 hm4 => ?_))
    obtain ⟨b6, c6, rfl⟩ := ho2.shape
    simp only [sx, argsFr, Sq, SI.wanted, AFr.ev, AFr.evV, AFr.get, AFr.box, AFr.put, AFr.setb, AV.val, callee, evArgs, aBin, aUn, oneCell, cellsOf, Value.cells, evParts, evElems, evAll, fillP, zeros, RetK, resAll, resOf, tupleOf, bnd, intOf?, AFr.keep, RefT.cells, undef, Nat.reduceBEq, Nat.reduceAdd, Nat.reduceMul, Nat.reduceLeDiff, Nat.reduceEqDiff, reduceCtorEq, Int.reduceEq, Int.reduceLT, Int.reduceLE, Int.reduceAdd, Int.reduceSub]
    refine ⟨rfl, ?_⟩
    have hlen : (halvesP x).length = 2 := by simp [halvesP, hl]
    have ho := Own.newRow (K := nodeK) (D := D) (σ := σ2) (xs := halvesP x) (e := 3) (c := 5)
      (cells := [.bool true, .slice b5 (x.es.take ((sizeP x + 1) / 2)).length c5, .slice none 0 0, .bool true, .slice b6 (x.es.drop ((sizeP x + 1) / 2)).length c6, .slice none 0 0]) rfl
      (fun b hb => Nat.lt_of_lt_of_le (hD b hb) (Nat.le_trans hm3.size hm4.size)) (by rw [hlen]) (by rw [hlen]; show 2 * 56 ≤ maxN; decide) (by rw [hlen]; rfl) (fun i y hy => ?_)
    · rw [hlen] at ho
      exact hR _ _ ho.sl ((hm3.drop.trans hm4.drop).trans (Mv.push [] _ _))
    · simp only [halvesP, hl, if_true] at hy
      match i, hy with
      | 0, hy =>
        simp at hy
        subst hy
        exact ⟨_, _, rfl, (ho1.step (hm4.any _)).sl, .nil⟩
      | 1, hy =>
        simp at hy
        subst hy
        exact ⟨_, _, rfl, ho2.sl, .nil⟩
      | _ + 2, hy => simp at hy
  | false =>
    have hle : (sizeP x + 1) / 2 ≤ x.ks.length := by simp only [sizeP, hl, Bool.false_eq_true, if_false]; omega
    simp only [sx, argsFr, Sq, SI.wanted, AFr.ev, AFr.evV, AFr.get, AFr.box, AFr.put, AFr.setb, AV.val, callee, evArgs, aBin, aUn, oneCell, cellsOf, Value.cells, evParts, evElems, evAll, fillP, zeros, RetK, resAll, resOf, tupleOf, bnd, intOf?, AFr.keep, RefT.cells, undef, Nat.reduceBEq, Nat.reduceAdd, Nat.reduceMul, Nat.reduceLeDiff, Nat.reduceEqDiff, reduceCtorEq, Int.reduceEq, Int.reduceLT, Int.reduceLE, Int.reduceAdd, Int.reduceSub]
    refine Sr_hi (kd := .i64) hn.ks rfl (by decide) (by simp only [sx, argsFr, Sq, SI.wanted, AFr.ev, AFr.evV, AFr.get, AFr.box, AFr.put, AFr.setb, AV.val, callee, evArgs, aBin, aUn, oneCell, cellsOf, Value.cells, evParts, evElems, evAll, fillP, zeros, RetK, resAll, resOf, tupleOf, bnd, intOf?, AFr.keep, RefT.cells, undef, Nat.reduceBEq, Nat.reduceAdd, Nat.reduceMul, Nat.reduceLeDiff, Nat.reduceEqDiff, reduceCtorEq, Int.reduceEq, Int.reduceLT, Int.reduceLE, Int.reduceAdd, Int.reduceSub]) (by simp only [sx, argsFr, Sq, SI.wanted, AFr.ev, AFr.evV, AFr.get, AFr.box, AFr.put, AFr.setb, AV.val, callee, evArgs, aBin, aUn, oneCell, cellsOf, Value.cells, evParts, evElems, evAll, fillP, zeros, RetK, resAll, resOf, tupleOf, bnd, intOf?, AFr.keep, RefT.cells, undef, Nat.reduceBEq, Nat.reduceAdd, Nat.reduceMul, Nat.reduceLeDiff, Nat.reduceEqDiff, reduceCtorEq, Int.reduceEq, Int.reduceLT, Int.reduceLE, Int.reduceAdd, Int.reduceSub]) hle (fun v1 h1 => ?_)
    simp only [sx, argsFr, Sq, SI.wanted, AFr.ev, AFr.evV, AFr.get, AFr.box, AFr.put, AFr.setb, AV.val, callee, evArgs, aBin, aUn, oneCell, cellsOf, Value.cells, evParts, evElems, evAll, fillP, zeros, RetK, resAll, resOf, tupleOf, bnd, intOf?, AFr.keep, RefT.cells, undef, Nat.reduceBEq, Nat.reduceAdd, Nat.reduceMul, Nat.reduceLeDiff, Nat.reduceEqDiff, reduceCtorEq, Int.reduceEq, Int.reduceLT, Int.reduceLE, Int.reduceAdd, Int.reduceSub]
    refine Or.inl (c128 hA (h1.step sh) hD (fun v2 M1 σ1 ho1 hm3 => ?_))
    obtain ⟨b5, c5, rfl⟩ := ho1.shape
    simp only [sx, argsFr, Sq, SI.wanted, AFr.ev, AFr.evV, AFr.get, AFr.box, AFr.put, AFr.setb, AV.val, callee, evArgs, aBin, aUn, oneCell, cellsOf, Value.cells, evParts, evElems, evAll, fillP, zeros, RetK, resAll, resOf, tupleOf, bnd, intOf?, AFr.keep, RefT.cells, undef, Nat.reduceBEq, Nat.reduceAdd, Nat.reduceMul, Nat.reduceLeDiff, Nat.reduceEqDiff, reduceCtorEq, Int.reduceEq, Int.reduceLT, Int.reduceLE, Int.reduceAdd, Int.reduceSub]
    refine Sr_lo (kd := .i64) (hn.ks.step (hm3.any _)) rfl (by decide) (by simp only [sx, argsFr, Sq, SI.wanted, AFr.ev, AFr.evV, AFr.get, AFr.box, AFr.put, AFr.setb, AV.val, callee, evArgs, aBin, aUn, oneCell, cellsOf, Value.cells, evParts, evElems, evAll, fillP, zeros, RetK, resAll, resOf, tupleOf, bnd, intOf?, AFr.keep, RefT.cells, undef, Nat.reduceBEq, Nat.reduceAdd, Nat.reduceMul, Nat.reduceLeDiff, Nat.reduceEqDiff, reduceCtorEq, Int.reduceEq, Int.reduceLT, Int.reduceLE, Int.reduceAdd, Int.reduceSub]) (by simp only [sx, argsFr, Sq, SI.wanted, AFr.ev, AFr.evV, AFr.get, AFr.box, AFr.put, AFr.setb, AV.val, callee, evArgs, aBin, aUn, oneCell, cellsOf, Value.cells, evParts, evElems, evAll, fillP, zeros, RetK, resAll, resOf, tupleOf, bnd, intOf?, AFr.keep, RefT.cells, undef, Nat.reduceBEq, Nat.reduceAdd, Nat.reduceMul, Nat.reduceLeDiff, Nat.reduceEqDiff, reduceCtorEq, Int.reduceEq, Int.reduceLT, Int.reduceLE, Int.reduceAdd, Int.reduceSub]) hle (fun v3 h3 => ?_)
    simp only [sx, argsFr, Sq, SI.wanted, AFr.ev, AFr.evV, AFr.get, AFr.box, AFr.put, AFr.setb, AV.val, callee, evArgs, aBin, aUn, oneCell, cellsOf, Value.cells, evParts, evElems, evAll, fillP, zeros, RetK, resAll, resOf, tupleOf, bnd, intOf?, AFr.keep, RefT.cells, undef, Nat.reduceBEq, Nat.reduceAdd, Nat.reduceMul, Nat.reduceLeDiff, Nat.reduceEqDiff, reduceCtorEq, Int.reduceEq, Int.reduceLT, Int.reduceLE, Int.reduceAdd, Int.reduceSub]
    have hD1 : ∀ b ∈ M1 ++ D, b < σ1.size := lt_app ho1.lt hD hm3.size
    refine Or.inl (c128 hA (h3.step sh) (fun b hb => Nat.lt_of_lt_of_le (hD b hb) hm3.size) (fun v4 M2 σ2 ho2 hm4 => ?_))
    obtain ⟨b6, c6, rfl⟩ := ho2.shape
    simp only [sx, argsFr, Sq, SI.wanted, AFr.ev, AFr.evV, AFr.get, AFr.box, AFr.put, AFr.setb, AV.val, callee, evArgs, aBin, aUn, oneCell, cellsOf, Value.cells, evParts, evElems, evAll, fillP, zeros, RetK, resAll, resOf, tupleOf, bnd, intOf?, AFr.keep, RefT.cells, undef, Nat.reduceBEq, Nat.reduceAdd, Nat.reduceMul, Nat.reduceLeDiff, Nat.reduceEqDiff, reduceCtorEq, Int.reduceEq, Int.reduceLT, Int.reduceLE, Int.reduceAdd, Int.reduceSub]
    refine ⟨rfl, ?_⟩
    have hlen : (halvesP x).length = 2 := by simp [halvesP, hl]
    have ho := Own.newRow (K := nodeK) (D := D) (σ := σ2) (xs := halvesP x) (e := 3) (c := 5)
      (cells := [.bool false, .slice none 0 0, .slice b5 (x.ks.take ((sizeP x + 1) / 2)).length c5, .bool false, .slice none 0 0, .slice b6 (x.ks.drop ((sizeP x + 1) / 2)).length c6]) rfl
      (fun b hb => Nat.lt_of_lt_of_le (hD b hb) (Nat.le_trans hm3.size hm4.size)) (by rw [hlen]) (by rw [hlen]; show 2 * 56 ≤ maxN; decide) (by rw [hlen]; rfl) (fun i y hy => ?_)
    · rw [hlen] at ho
      exact hR _ _ ho.sl ((hm3.drop.trans hm4.drop).trans (Mv.push [] _ _))
    · simp only [halvesP, hl, Bool.false_eq_true, if_false] at hy
      match i, hy with
      | 0, hy =>
        simp at hy
        subst hy
        exact ⟨_, _, rfl, .nil, (ho1.step (hm4.any _)).sl⟩
      | 1, hy =>
        simp at hy
        subst hy
        exact ⟨_, _, rfl, .nil, ho2.sl⟩
      | _ + 2, hy => simp at hy
end
end Go.Proofs.Ytbldkkabkijpgaa

namespace Go.Proofs.Ytbldkkabkijpgaa
open Go.Am

/-- a stands ahead of b. -/
def ltB (a b : ByteArray) : Bool := Op.bytesLess a.toList b.toList

def cmpP (a b : ByteArray) : Int := if ltB a b then -1 else if gtB a b then 1 else 0

/-- The place where a name stands, or would: halving between two places. -/
def bsGo (es : List Ent) (name : ByteArray) : Nat → Nat → Nat → Nat
  | 0, i, _ => i
  | u + 1, i, j => if i < j then
      match es[(i + j) / 2]? with
      | some e => if cmpP e.name name < 0 then bsGo es name u ((i + j) / 2 + 1) j else bsGo es name u i ((i + j) / 2)
      | none => i
    else i

def bsP (es : List Ent) (name : ByteArray) : Nat := bsGo es name es.length 0 es.length

def bsIs (es : List Ent) (name : ByteArray) : Bool :=
  match es[bsP es name]? with
  | some e => decide (cmpP e.name name = 0)
  | none => false

set_option linter.unusedSimpArgs false
section
variable {A : AProg} (hA : Prg A)
include hA

theorem c115 {σ} {n name : ByteArray} {base : Option Addr} {m c : Nat} {R : Value → AHeap → Prop} (hR : R (.int .i64 (cmpP n name)) σ) : C A 115 [.agg #[.string n, .slice base m c], .string name] σ R := by
  refine C_fn s115 (hA.at rfl) ?_
  unfold cmpP at hR
  simp only [s115, sx, argsFr, Sq, SI.wanted, AFr.ev, AFr.evV, AFr.get, AFr.box, AFr.put, AFr.setb, AV.val, callee, evArgs, aBin, aUn, oneCell, cellsOf, Value.cells, evParts, evElems, evAll, fillP, zeros, RetK, resAll, resOf, tupleOf, bnd, intOf?, AFr.keep, RefT.cells, undef, Nat.reduceBEq, Nat.reduceAdd, Nat.reduceMul, Nat.reduceLeDiff, Nat.reduceEqDiff, reduceCtorEq, Int.reduceEq, Int.reduceLT, Int.reduceLE, Int.reduceAdd, Int.reduceSub]
  refine Cd_split (fun ht => ?_) (fun ht => ?_)
  · simp only [sx, argsFr, Sq, SI.wanted, AFr.ev, AFr.evV, AFr.get, AFr.box, AFr.put, AFr.setb, AV.val, callee, evArgs, aBin, aUn, oneCell, cellsOf, Value.cells, evParts, evElems, evAll, fillP, zeros, RetK, resAll, resOf, tupleOf, bnd, intOf?, AFr.keep, RefT.cells, undef, Nat.reduceBEq, Nat.reduceAdd, Nat.reduceMul, Nat.reduceLeDiff, Nat.reduceEqDiff, reduceCtorEq, Int.reduceEq, Int.reduceLT, Int.reduceLE, Int.reduceAdd, Int.reduceSub]
    rw [if_pos (by exact ht)] at hR
    exact hR
  · simp only [sx, argsFr, Sq, SI.wanted, AFr.ev, AFr.evV, AFr.get, AFr.box, AFr.put, AFr.setb, AV.val, callee, evArgs, aBin, aUn, oneCell, cellsOf, Value.cells, evParts, evElems, evAll, fillP, zeros, RetK, resAll, resOf, tupleOf, bnd, intOf?, AFr.keep, RefT.cells, undef, Nat.reduceBEq, Nat.reduceAdd, Nat.reduceMul, Nat.reduceLeDiff, Nat.reduceEqDiff, reduceCtorEq, Int.reduceEq, Int.reduceLT, Int.reduceLE, Int.reduceAdd, Int.reduceSub]
    rw [if_neg (by unfold ltB; simp [ht])] at hR
    refine Cd_split (fun ht2 => ?_) (fun ht2 => ?_)
    · simp only [sx, argsFr, Sq, SI.wanted, AFr.ev, AFr.evV, AFr.get, AFr.box, AFr.put, AFr.setb, AV.val, callee, evArgs, aBin, aUn, oneCell, cellsOf, Value.cells, evParts, evElems, evAll, fillP, zeros, RetK, resAll, resOf, tupleOf, bnd, intOf?, AFr.keep, RefT.cells, undef, Nat.reduceBEq, Nat.reduceAdd, Nat.reduceMul, Nat.reduceLeDiff, Nat.reduceEqDiff, reduceCtorEq, Int.reduceEq, Int.reduceLT, Int.reduceLE, Int.reduceAdd, Int.reduceSub]
      rw [if_pos (by exact ht2)] at hR
      exact hR
    · simp only [sx, argsFr, Sq, SI.wanted, AFr.ev, AFr.evV, AFr.get, AFr.box, AFr.put, AFr.setb, AV.val, callee, evArgs, aBin, aUn, oneCell, cellsOf, Value.cells, evParts, evElems, evAll, fillP, zeros, RetK, resAll, resOf, tupleOf, bnd, intOf?, AFr.keep, RefT.cells, undef, Nat.reduceBEq, Nat.reduceAdd, Nat.reduceMul, Nat.reduceLeDiff, Nat.reduceEqDiff, reduceCtorEq, Int.reduceEq, Int.reduceLT, Int.reduceLE, Int.reduceAdd, Int.reduceSub]
      rw [if_neg (by unfold gtB; simp [ht2])] at hR
      exact hR

theorem c114 {D σ v} {es : List Ent} {name : ByteArray} (h : SlR entK D σ v es) {R : Value → AHeap → Prop} (hR : R (.tuple #[.int .i64 (bsP es name), .bool (bsIs es name)]) σ) :
    C A 114 [v, .string name, .func (.func 115) #[] #[]] σ R := by
  refine C_fn s114 (hA.at rfl) ?_
  obtain ⟨base, c, rfl⟩ := h.shape
  have hmx := h.bound
  unfold maxN at hmx
  simp only [s114, sx, argsFr, Sq, SI.wanted, AFr.ev, AFr.evV, AFr.get, AFr.box, AFr.put, AFr.setb, AV.val, callee, evArgs, aBin, aUn, oneCell, cellsOf, Value.cells, evParts, evElems, evAll, fillP, zeros, RetK, resAll, resOf, tupleOf, bnd, intOf?, AFr.keep, RefT.cells, undef, Nat.reduceBEq, Nat.reduceAdd, Nat.reduceMul, Nat.reduceLeDiff, Nat.reduceEqDiff, reduceCtorEq, Int.reduceEq, Int.reduceLT, Int.reduceLE, Int.reduceAdd, Int.reduceSub]
  refine Lp_ind (fun p : Nat × Nat => p.2 - p.1) (fun p f σ1 => σ1 = σ ∧ f.keep [0, 1, 2, 8, 9, 10] [] = some ⟨[(0, .v (.slice base es.length c)), (1, .v (.string name)), (2, .v (.func (.func 115) #[] #[])), (8, .v (.int .i64 es.length)), (9, .v (.int .i64 p.1)), (10, .v (.int .i64 p.2))], []⟩ ∧
    p.1 ≤ p.2 ∧ p.2 ≤ es.length ∧ ∃ u, p.2 - p.1 ≤ u ∧ bsP es name = bsGo es name u p.1 p.2) ?_ (0, es.length) _ _ ⟨rfl, rfl, Nat.zero_le _, Nat.le_refl _, es.length, by simp, rfl⟩
  rintro ⟨i, j⟩ f σ1 ⟨rfl, hkp, hij, hj, u, hu, hb⟩ ih
  simp only at hkp hij hj hu hb
  rw [St_seq, St_keep hkp]
  simp only [sx, argsFr, Sq, SI.wanted, AFr.ev, AFr.evV, AFr.get, AFr.box, AFr.put, AFr.setb, AV.val, callee, evArgs, aBin, aUn, oneCell, cellsOf, Value.cells, evParts, evElems, evAll, fillP, zeros, RetK, resAll, resOf, tupleOf, bnd, intOf?, AFr.keep, RefT.cells, undef, Nat.reduceBEq, Nat.reduceAdd, Nat.reduceMul, Nat.reduceLeDiff, Nat.reduceEqDiff, reduceCtorEq, Int.reduceEq, Int.reduceLT, Int.reduceLE, Int.reduceAdd, Int.reduceSub]
  refine Cd_split (fun ht => ?_) (fun ht => ?_)
  · have hlt : i < j := by simpa using ht
    have hhl : (i + j) / 2 < es.length := by omega
    have e2 : (2 : Int) ^ min (Int.toNat 1) IntKind.u64.bits = 2 := rfl
    have e1 : IntKind.i64.wrap ((IntKind.u64.wrap (IntKind.i64.wrap ((i : Int) + (j : Int)))).fdiv (2 ^ min (Int.toNat 1) IntKind.u64.bits)) = (((i + j) / 2 : Nat) : Int) := by
      rw [e2, show (i : Int) + (j : Int) = ((i + j : Nat) : Int) by omega, wrap_n (by omega), wrap_u (by omega), Int.fdiv_eq_ediv_of_nonneg _ (by decide)]
      exact wrap_n (n := (i + j) / 2) (by omega)
    obtain ⟨b, off, cs, e, m, cells, rfl, hbb, hcut, y, hy, hys⟩ := h.atN (j := 2) rfl (List.getElem?_eq_getElem hhl)
    subst hy
    obtain ⟨b5, c5, rfl⟩ := hys.shape
    obtain ⟨u, rfl⟩ : ∃ w, u = w + 1 := ⟨u - 1, by omega⟩
    rw [bsGo, if_pos hlt, List.getElem?_eq_getElem hhl] at hb
    simp only at hb
    simp only [sx, argsFr, Sq, SI.wanted, AFr.ev, AFr.evV, AFr.get, AFr.box, AFr.put, AFr.setb, AV.val, callee, evArgs, aBin, aUn, oneCell, cellsOf, Value.cells, evParts, evElems, evAll, fillP, zeros, RetK, resAll, resOf, tupleOf, bnd, intOf?, AFr.keep, RefT.cells, undef, Nat.reduceBEq, Nat.reduceAdd, Nat.reduceMul, Nat.reduceLeDiff, Nat.reduceEqDiff, reduceCtorEq, Int.reduceEq, Int.reduceLT, Int.reduceLE, Int.reduceAdd, Int.reduceSub, e1, hhl, hbb, hcut]
    refine Or.inl (c115 hA ?_)
    simp only [sx, argsFr, Sq, SI.wanted, AFr.ev, AFr.evV, AFr.get, AFr.box, AFr.put, AFr.setb, AV.val, callee, evArgs, aBin, aUn, oneCell, cellsOf, Value.cells, evParts, evElems, evAll, fillP, zeros, RetK, resAll, resOf, tupleOf, bnd, intOf?, AFr.keep, RefT.cells, undef, Nat.reduceBEq, Nat.reduceAdd, Nat.reduceMul, Nat.reduceLeDiff, Nat.reduceEqDiff, reduceCtorEq, Int.reduceEq, Int.reduceLT, Int.reduceLE, Int.reduceAdd, Int.reduceSub]
    refine Cd_split (fun ht2 => ?_) (fun ht2 => ?_)
    · simp only [sx, argsFr, Sq, SI.wanted, AFr.ev, AFr.evV, AFr.get, AFr.box, AFr.put, AFr.setb, AV.val, callee, evArgs, aBin, aUn, oneCell, cellsOf, Value.cells, evParts, evElems, evAll, fillP, zeros, RetK, resAll, resOf, tupleOf, bnd, intOf?, AFr.keep, RefT.cells, undef, Nat.reduceBEq, Nat.reduceAdd, Nat.reduceMul, Nat.reduceLeDiff, Nat.reduceEqDiff, reduceCtorEq, Int.reduceEq, Int.reduceLT, Int.reduceLE, Int.reduceAdd, Int.reduceSub]
      rw [if_pos (by simpa using ht2)] at hb
      refine ih ((i + j) / 2 + 1, j) _ _ (by simp only; omega) ⟨rfl, ?_, by simp only; omega, hj, u, by simp only; omega, hb⟩
      simp only [sx, argsFr, Sq, SI.wanted, AFr.ev, AFr.evV, AFr.get, AFr.box, AFr.put, AFr.setb, AV.val, callee, evArgs, aBin, aUn, oneCell, cellsOf, Value.cells, evParts, evElems, evAll, fillP, zeros, RetK, resAll, resOf, tupleOf, bnd, intOf?, AFr.keep, RefT.cells, undef, Nat.reduceBEq, Nat.reduceAdd, Nat.reduceMul, Nat.reduceLeDiff, Nat.reduceEqDiff, reduceCtorEq, Int.reduceEq, Int.reduceLT, Int.reduceLE, Int.reduceAdd, Int.reduceSub, wrap_up (show (i + j) / 2 ≤ 1000000000000000 by omega)]
    · simp only [sx, argsFr, Sq, SI.wanted, AFr.ev, AFr.evV, AFr.get, AFr.box, AFr.put, AFr.setb, AV.val, callee, evArgs, aBin, aUn, oneCell, cellsOf, Value.cells, evParts, evElems, evAll, fillP, zeros, RetK, resAll, resOf, tupleOf, bnd, intOf?, AFr.keep, RefT.cells, undef, Nat.reduceBEq, Nat.reduceAdd, Nat.reduceMul, Nat.reduceLeDiff, Nat.reduceEqDiff, reduceCtorEq, Int.reduceEq, Int.reduceLT, Int.reduceLE, Int.reduceAdd, Int.reduceSub]
      rw [if_neg (by simpa using ht2)] at hb
      refine ih (i, (i + j) / 2) _ _ (by simp only; omega) ⟨rfl, ?_, by simp only; omega, by simp only; omega, u, by simp only; omega, hb⟩
      simp only [sx, argsFr, Sq, SI.wanted, AFr.ev, AFr.evV, AFr.get, AFr.box, AFr.put, AFr.setb, AV.val, callee, evArgs, aBin, aUn, oneCell, cellsOf, Value.cells, evParts, evElems, evAll, fillP, zeros, RetK, resAll, resOf, tupleOf, bnd, intOf?, AFr.keep, RefT.cells, undef, Nat.reduceBEq, Nat.reduceAdd, Nat.reduceMul, Nat.reduceLeDiff, Nat.reduceEqDiff, reduceCtorEq, Int.reduceEq, Int.reduceLT, Int.reduceLE, Int.reduceAdd, Int.reduceSub]
  · have hge : ¬ i < j := by simpa using ht
    have hbi : bsP es name = i := by
      rw [hb]
      cases u with
      | zero => rfl
      | succ u => rw [bsGo, if_neg hge]
    unfold bsIs at hR
    rw [hbi] at hR
    by_cases hl : i < es.length
    · obtain ⟨b, off, cs, e, m, cells, rfl, hbb, hcut, y, hy, hys⟩ := h.atN (j := 2) rfl (List.getElem?_eq_getElem hl)
      subst hy
      obtain ⟨b5, c5, rfl⟩ := hys.shape
      rw [List.getElem?_eq_getElem hl] at hR
      simp only [sx, argsFr, Sq, SI.wanted, AFr.ev, AFr.evV, AFr.get, AFr.box, AFr.put, AFr.setb, AV.val, callee, evArgs, aBin, aUn, oneCell, cellsOf, Value.cells, evParts, evElems, evAll, fillP, zeros, RetK, resAll, resOf, tupleOf, bnd, intOf?, AFr.keep, RefT.cells, undef, Nat.reduceBEq, Nat.reduceAdd, Nat.reduceMul, Nat.reduceLeDiff, Nat.reduceEqDiff, reduceCtorEq, Int.reduceEq, Int.reduceLT, Int.reduceLE, Int.reduceAdd, Int.reduceSub, hl, hbb, hcut]
      refine Or.inl (c115 hA ?_)
      simp only [sx, argsFr, Sq, SI.wanted, AFr.ev, AFr.evV, AFr.get, AFr.box, AFr.put, AFr.setb, AV.val, callee, evArgs, aBin, aUn, oneCell, cellsOf, Value.cells, evParts, evElems, evAll, fillP, zeros, RetK, resAll, resOf, tupleOf, bnd, intOf?, AFr.keep, RefT.cells, undef, Nat.reduceBEq, Nat.reduceAdd, Nat.reduceMul, Nat.reduceLeDiff, Nat.reduceEqDiff, reduceCtorEq, Int.reduceEq, Int.reduceLT, Int.reduceLE, Int.reduceAdd, Int.reduceSub]
      exact hR
    · rw [List.getElem?_eq_none (by omega)] at hR
      simp only [sx, argsFr, Sq, SI.wanted, AFr.ev, AFr.evV, AFr.get, AFr.box, AFr.put, AFr.setb, AV.val, callee, evArgs, aBin, aUn, oneCell, cellsOf, Value.cells, evParts, evElems, evAll, fillP, zeros, RetK, resAll, resOf, tupleOf, bnd, intOf?, AFr.keep, RefT.cells, undef, Nat.reduceBEq, Nat.reduceAdd, Nat.reduceMul, Nat.reduceLeDiff, Nat.reduceEqDiff, reduceCtorEq, Int.reduceEq, Int.reduceLT, Int.reduceLE, Int.reduceAdd, Int.reduceSub, hl]
      exact hR

theorem c85 {D σ ve vk} {x : NodeT} {name : ByteArray} (he : SlR entK D σ ve x.es) (hk : SlR kidK D σ vk x.ks) {R : Value → AHeap → Prop} (hR : R (.tuple #[.int .i64 (bsP x.es name), .bool (bsIs x.es name)]) σ) :
    C A 85 [.agg #[.bool x.leaf, ve, vk], .string name] σ R := by
  refine C_fn s85 (hA.at rfl) ?_
  obtain ⟨b3, c3, rfl⟩ := he.shape
  obtain ⟨b4, c4, rfl⟩ := hk.shape
  simp only [s85, sx, argsFr, Sq, SI.wanted, AFr.ev, AFr.evV, AFr.get, AFr.box, AFr.put, AFr.setb, AV.val, callee, evArgs, aBin, aUn, oneCell, cellsOf, Value.cells, evParts, evElems, evAll, fillP, zeros, RetK, resAll, resOf, tupleOf, bnd, intOf?, AFr.keep, RefT.cells, undef, Nat.reduceBEq, Nat.reduceAdd, Nat.reduceMul, Nat.reduceLeDiff, Nat.reduceEqDiff, reduceCtorEq, Int.reduceEq, Int.reduceLT, Int.reduceLE, Int.reduceAdd, Int.reduceSub]
  refine Or.inl (c114 hA he ?_)
  simp only [sx, argsFr, Sq, SI.wanted, AFr.ev, AFr.evV, AFr.get, AFr.box, AFr.put, AFr.setb, AV.val, callee, evArgs, aBin, aUn, oneCell, cellsOf, Value.cells, evParts, evElems, evAll, fillP, zeros, RetK, resAll, resOf, tupleOf, bnd, intOf?, AFr.keep, RefT.cells, undef, Nat.reduceBEq, Nat.reduceAdd, Nat.reduceMul, Nat.reduceLeDiff, Nat.reduceEqDiff, reduceCtorEq, Int.reduceEq, Int.reduceLT, Int.reduceLE, Int.reduceAdd, Int.reduceSub]
  exact hR
end
end Go.Proofs.Ytbldkkabkijpgaa

namespace Go.Proofs.Ytbldkkabkijpgaa
open Go.Am

theorem spl_a {L V Z : List Value} {a k : Nat} (hl : L.length = a) (hv : V.length = k) : splice (L ++ Z) a V = L ++ (V ++ Z.drop k) := by
  subst hl hv
  unfold splice
  rw [List.take_left, List.drop_length_add_append, List.append_assoc]

theorem spl_b {M Z D : List Value} {a : Nat} (hl : M.length = a) (hz : Z.length ≤ D.length) : splice (M ++ Z) a D = M ++ D := by
  rw [spl_a hl rfl, List.drop_eq_nil_of_le hz, List.append_nil]

set_option linter.unusedSimpArgs false
section
variable {A : AProg} (hA : Prg A)
include hA

theorem x94 {σ : AHeap} {b n i cap bv ov cv ev : Nat} {cs dv : List Value} {mv : AMode} (hb : σ[b]? = some (.row cs 2 .W)) (hl : cs.length = n * 2) (hi : i ≤ n) (hn : n ≤ 1000) (hc : n ≤ cap)
    (hv : σ[bv]? = some (.row dv ev mv)) (hvl : ov + 2 ≤ dv.length) (hne : bv ≠ b) :
    C A 94 [.slice (some ⟨b, 0, some 2⟩) n cap, .int .i64 i, .slice (some ⟨bv, ov, none⟩) 1 cv] σ (Xr σ b 2 (cs.take (i * 2) ++ (dv.drop ov).take 2 ++ cs.drop (i * 2)) (n + 1)) := by
  refine C_fn s94 (hA.at rfl) ?_
  have h1 : (0 : Int) ≤ (i : Int) ∧ (i : Int) ≤ (n : Int) := by omega
  have h2 : (i : Int).toNat = i := by omega
  have e1 : ((1 : Nat) : Int) = 1 := rfl
  have hw1 : IntKind.i64.wrap ((n : Int) + 1) = ((n + 1 : Nat) : Int) := wrap_up (by omega)
  have hw2 : IntKind.i64.wrap ((i : Int) + 1) = ((i + 1 : Nat) : Int) := wrap_up (by omega)
  have hw3 : IntKind.i64.wrap (((n + 1 : Nat) : Int) - (i : Int)) = ((n + 1 - i : Nat) : Int) := by rw [wrap_in (by omega) (by omega)]; omega
  have hlb := lt_of_get hb
  have hlv := lt_of_get hv
  by_cases hin : i = n
  · subst hin
    have hl0 : i * 2 ≤ cs.length := by omega
    have hnew : cs.take (i * 2) ++ (dv.drop ov).take 2 ++ cs.drop (i * 2) = cs ++ (dv.drop ov).take 2 := by
      rw [List.take_of_length_le (show cs.length ≤ i * 2 by omega), List.drop_eq_nil_of_le (show cs.length ≤ i * 2 by omega), List.append_nil]
    rw [hnew]
    by_cases hroom : i + 1 ≤ cap
    · have hsp : splice cs (i * 2) ((dv.drop ov).take 2) = cs ++ (dv.drop ov).take 2 := by
        unfold splice
        rw [List.take_of_length_le (show cs.length ≤ i * 2 by omega), List.drop_eq_nil_of_le (show cs.length ≤ _ by omega), List.append_nil]
      simp only [s94, sx, argsFr, Sq, SI.wanted, AFr.ev, AFr.evV, AFr.get, AFr.box, AFr.put, AFr.setb, AV.val, callee, evArgs, aBin, aUn, oneCell, cellsOf, Value.cells, evParts, evElems, evAll, fillP, zeros, RetK, resAll, resOf, tupleOf, bnd, intOf?, AFr.keep, RefT.cells, undef, Nat.reduceBEq, Nat.reduceAdd, Nat.reduceMul, Nat.reduceLeDiff, Nat.reduceEqDiff, reduceCtorEq, Int.reduceEq, Int.reduceLT, Int.reduceLE, Int.reduceAdd, Int.reduceSub, stepOp.eq_20, stepOp.eq_31, srcOf, h1, h2, hc, e1, hv, hb, hvl, hroom, hl0, hsp]
      exact ⟨b, [], some 2, cap, rfl, .inl rfl, .inl rfl, by rw [Array.getElem?_setIfInBounds_self_of_lt hlb, List.append_nil], by simp, by simp, fun x hx hxb => Array.getElem?_setIfInBounds_ne (Ne.symm hxb)⟩
    · have hbd : (i + 1) * 40 ≤ 140737488355328 := by omega
      have htk : cs.take (i * 2) = cs := List.take_of_length_le (by omega)
      simp only [s94, sx, argsFr, Sq, SI.wanted, AFr.ev, AFr.evV, AFr.get, AFr.box, AFr.put, AFr.setb, AV.val, callee, evArgs, aBin, aUn, oneCell, cellsOf, Value.cells, evParts, evElems, evAll, fillP, zeros, RetK, resAll, resOf, tupleOf, bnd, intOf?, AFr.keep, RefT.cells, undef, Nat.reduceBEq, Nat.reduceAdd, Nat.reduceMul, Nat.reduceLeDiff, Nat.reduceEqDiff, reduceCtorEq, Int.reduceEq, Int.reduceLT, Int.reduceLE, Int.reduceAdd, Int.reduceSub, stepOp.eq_20, stepOp.eq_31, srcOf, h1, h2, hc, e1, hv, hb, hvl, hroom, hl0, hbd, htk]
      refine ⟨σ.size, [], none, i + 1 + 2, rfl, .inr ⟨rfl, rfl⟩, .inr rfl, by simp, by simp, by simp, fun x hx hxb => ?_⟩
      rw [Array.getElem?_push, if_neg (by omega)]
  · have hlt : i < n := by omega
    have hin' : ¬ ((i : Int) = (n : Int)) := by omega
    have hcl : ((cs.drop (i * 2)).take ((n - i) * 2)) = cs.drop (i * 2) := List.take_of_length_le (by simp; omega)
    by_cases hroom : n + 1 ≤ cap
    · have hroom' : ¬ (((n + 1 : Nat) : Int) > (cap : Int)) := by omega
      have b1 : (0 : Int) ≤ ((n + 1 : Nat) : Int) ∧ ((n + 1 : Nat) : Int) ≤ (cap : Int) := by omega
      have b2 : (0 : Int) ≤ ((i + 1 : Nat) : Int) ∧ ((i + 1 : Nat) : Int) ≤ ((n + 1 : Nat) : Int) := by omega
      have d0 : ¬ dv = [] := fun e => by rw [e] at hvl; simp at hvl
      have d1 : ¬ cs = [] := fun e => by rw [e] at hl; simp at hl; omega
      have d2 : ¬ bv = b := hne
      have d3 : (n + 1 - (i + 1)) = n - i := by omega
      have d4 : min (n + 1 - i) (n - i) = n - i := by omega
      have b3 : (i : Int) ≤ ((n + 1 : Nat) : Int) := by omega
      have b4 : ((i + 1) * 2 + (n - i) * 2 ≤ cs.length ∨ (i + 1) * 2 ≤ cs.length) ∧ i * 2 + (n - i) * 2 ≤ cs.length := ⟨.inr (by omega), by omega⟩
      have hs1 : splice cs ((i + 1) * 2) (cs.drop (i * 2)) = cs.take ((i + 1) * 2) ++ cs.drop (i * 2) := by
        unfold splice
        rw [List.drop_eq_nil_of_le (show cs.length ≤ (i + 1) * 2 + (cs.drop (i * 2)).length by simp; omega), List.append_nil]
      have d5 : min 1 (n + 1 - i) = 1 := by omega
      have hs2 : splice (cs.take ((i + 1) * 2) ++ cs.drop (i * 2)) (i * 2) ((dv.drop ov).take 2) = cs.take (i * 2) ++ (dv.drop ov).take 2 ++ cs.drop (i * 2) := by
        have q1 : ((dv.drop ov).take 2).length = 2 := by simp; omega
        unfold splice
        rw [q1, List.take_append_of_le_length (by simp; omega), List.take_take, Nat.min_eq_left (by omega), show i * 2 + 2 = (cs.take ((i + 1) * 2)).length by simp; omega, List.drop_left]
      have b5 : (i * 2 + (n + 1 - i) * 2 ≤ (cs.take ((i + 1) * 2) ++ cs.drop (i * 2)).length ∨ i * 2 ≤ (cs.take ((i + 1) * 2) ++ cs.drop (i * 2)).length) ∧ ov + 2 ≤ dv.length := ⟨.inr (by simp; omega), hvl⟩
      have g1 : ∀ x, (σ.setIfInBounds b x)[b]? = some x := fun x => Array.getElem?_setIfInBounds_self_of_lt hlb
      have g2 : ∀ x, (σ.setIfInBounds b x)[bv]? = some (.row dv ev mv) := fun x => (Array.getElem?_setIfInBounds_ne (Ne.symm hne)).trans hv
      simp only [s94, sx, argsFr, Sq, SI.wanted, AFr.ev, AFr.evV, AFr.get, AFr.box, AFr.put, AFr.setb, AV.val, callee, evArgs, aBin, aUn, oneCell, cellsOf, Value.cells, evParts, evElems, evAll, fillP, zeros, RetK, resAll, resOf, tupleOf, bnd, intOf?, AFr.keep, RefT.cells, undef, Nat.reduceBEq, Nat.reduceAdd, Nat.reduceMul, Nat.reduceLeDiff, Nat.reduceEqDiff, reduceCtorEq, Int.reduceEq, Int.reduceLT, Int.reduceLE, Int.reduceAdd, Int.reduceSub, stepOp.eq_20, stepOp.eq_32, stepOp.eq_38, stepOp.eq_42, h1, h2, hc, e1, hv, hb, hvl, hroom, hroom', hin', hw1, hw2, b1, b2, b3, b4, b5, d0, d1, d2, d3, d4, d5, hcl, hs1, hs2, g1, g2]
      refine ⟨b, [], some 2, cap, rfl, .inl rfl, .inl rfl, ?_, by simp, by simp, fun x hx hxb => ?_⟩
      · rw [Array.getElem?_setIfInBounds_self_of_lt (by simpa using hlb), List.append_nil]
      · rw [Array.getElem?_setIfInBounds_ne (Ne.symm hxb), Array.getElem?_setIfInBounds_ne (Ne.symm hxb)]
    · have hroom' : (((n + 1 : Nat) : Int) > (cap : Int)) := by omega
      have d5 : (i : Int) ≤ (cap : Int) := by omega
      have d6 : i ≤ cap := by omega
      have d7 : (0 : Int) < ((n + 1 - i : Nat) : Int) ∧ cap < i + (n + 1 - i) ∧ i * 2 ≤ cs.length ∧ (i + (n + 1 - i)) * 40 ≤ 140737488355328 := ⟨by omega, by omega, by omega, by omega⟩
      have d8 : i + (n + 1 - i) = n + 1 := by omega
      have d9 : cap < n + 1 := by omega
      have b3 : (i : Int) ≤ ((n + 1 : Nat) : Int) := by omega
      have b2 : ((i + 1 : Nat) : Int) ≤ ((n + 1 : Nat) : Int) := by omega
      have b4 : (n + 1) * 40 ≤ 140737488355328 := by omega
      have b6 : (0 : Int) < ((n + 1 - i : Nat) : Int) := by omega
      have b7 : i * 2 ≤ cs.length := by omega
      have zl : (zeros [.string ⟨#[]⟩, .slice none 0 0] (n + 1 - i)).length = (n + 1 - i) * 2 := by rw [zeros_length]; rfl
      generalize hZ : zeros [.string ⟨#[]⟩, .slice none 0 0] (n + 1 - i) = Z at zl
      have vl : ((dv.drop ov).take 2).length = 2 := by simp; omega
      have p1 : ∀ x, (σ.push x)[σ.size]? = some x := fun x => by simp
      have p2 : ∀ x, (σ.push x)[bv]? = some (.row dv ev mv) := fun x => by rw [Array.getElem?_push, if_neg (by omega)]; exact hv
      have p3 : ∀ x y, ((σ.push x).setIfInBounds σ.size y)[σ.size]? = some y := fun x y => Array.getElem?_setIfInBounds_self_of_lt (by simp)
      have p4 : ∀ x y, ((σ.push x).setIfInBounds σ.size y)[b]? = some (.row cs 2 .W) := fun x y => by rw [Array.getElem?_setIfInBounds_ne (by omega), Array.getElem?_push, if_neg (by omega)]; exact hb
      have tl : (cs.take (i * 2)).length = i * 2 := by simp; omega
      have q1 : i * 2 + (n + 1 - i) * 2 ≤ (cs.take (i * 2) ++ Z).length := by rw [List.length_append, zl, tl]; omega
      have q2 : min 1 (n + 1 - i) = 1 := by omega
      have q3 : splice (cs.take (i * 2) ++ Z) (i * 2) ((dv.drop ov).take 2) = cs.take (i * 2) ++ ((dv.drop ov).take 2 ++ Z.drop 2) := spl_a tl vl
      have q4 : n + 1 - (i + 1) = n - i := by omega
      have q5 : ((i + 1) * 2 + (n - i) * 2 ≤ (cs.take (i * 2) ++ ((dv.drop ov).take 2 ++ Z.drop 2)).length) := by simp only [List.length_append, vl, tl, List.length_drop, zl]; omega
      have q7 : i * 2 + (n - i) * 2 ≤ cs.length := by omega
      have q6 : splice (cs.take (i * 2) ++ ((dv.drop ov).take 2 ++ Z.drop 2)) ((i + 1) * 2) (cs.drop (i * 2)) = cs.take (i * 2) ++ ((dv.drop ov).take 2 ++ cs.drop (i * 2)) := by
        rw [← List.append_assoc, spl_b (by rw [List.length_append, vl, tl]; omega) (by simp only [List.length_drop, zl]; omega), List.append_assoc]
      simp only [s94, sx, argsFr, Sq, SI.wanted, AFr.ev, AFr.evV, AFr.get, AFr.box, AFr.put, AFr.setb, AV.val, callee, evArgs, aBin, aUn, oneCell, cellsOf, Value.cells, evParts, evElems, evAll, fillP, zeros, RetK, resAll, resOf, tupleOf, bnd, intOf?, AFr.keep, RefT.cells, undef, Nat.reduceBEq, Nat.reduceAdd, Nat.reduceMul, Nat.reduceLeDiff, Nat.reduceEqDiff, reduceCtorEq, Int.reduceEq, Int.reduceLT, Int.reduceLE, Int.reduceAdd, Int.reduceSub, stepOp.eq_20, stepOp.eq_32, stepOp.eq_38, stepOp.eq_41, stepOp.eq_42, h1, h2, hc, e1, hv, hb, hvl, hroom, hroom', hin', hw1, hw2, hw3, b2, b3, b4, b6, b7, d5, d6, d7, d8, d9, hZ, p1, p2, p3, p4, q1, q2, q3, q4, q5, q6, q7, hcl, Nat.min_self]
      refine ⟨σ.size, [], none, n + 1 + 2, rfl, .inr ⟨rfl, rfl⟩, .inr rfl, ?_, by simp, by simp, fun x hx hxb => ?_⟩
      · rw [Array.getElem?_setIfInBounds_self_of_lt (by simp)]
        simp
      · rw [Array.getElem?_setIfInBounds_ne (by omega), Array.getElem?_setIfInBounds_ne (by omega), Array.getElem?_push, if_neg (by omega)]

theorem c94 {D N σ v vv} {xs : List Ent} {y : Ent} {i : Nat} (ho : Own entK D σ N v xs) (hv : SlR entK (N ++ D) σ vv [y]) (hi : i ≤ xs.length) (hl : xs.length ≤ 1000) (hD : ∀ b ∈ D, b < σ.size) {R : Value → AHeap → Prop}
    (hR : ∀ v' N' σ', Own entK D σ' N' v' (xs.take i ++ y :: xs.drop i) → Mv N σ N' σ' → R v' σ') : C A 94 [v, .int .i64 i, vv] σ R := by
  have hv0 := hv
  cases hv with
  | row bv ov cv dv ev mv hnv hcv hDv hbv hlv hlist =>
    have e1 : ((1 : Nat) : Int) = 1 := rfl
    have h1v : entK.list (N ++ D) σ ((dv.drop ov).take 2) [y] := by
      have := Kd.list_take (K := entK) hlist 1
      simpa [show entK.n = 2 from rfl] using this
    have hvl : ov + 2 ≤ dv.length := hlv
    have vl : ((dv.drop ov).take 2).length = 2 := by simp; omega
    cases ho with
    | nil =>
      have : i = 0 := by simpa using hi
      subst this
      refine C_fn s94 (hA.at rfl) ?_
      simp only [s94, sx, argsFr, Sq, SI.wanted, AFr.ev, AFr.evV, AFr.get, AFr.box, AFr.put, AFr.setb, AV.val, callee, evArgs, aBin, aUn, oneCell, cellsOf, Value.cells, evParts, evElems, evAll, fillP, zeros, RetK, resAll, resOf, tupleOf, bnd, intOf?, AFr.keep, RefT.cells, undef, Nat.reduceBEq, Nat.reduceAdd, Nat.reduceMul, Nat.reduceLeDiff, Nat.reduceEqDiff, reduceCtorEq, Int.reduceEq, Int.reduceLT, Int.reduceLE, Int.reduceAdd, Int.reduceSub, stepOp.eq_20, e1, List.length_singleton]
      refine Sr_app (K := entK) (D := D) (N := []) (xs := []) (ys := [y]) (new := (dv.drop ov).take 2) (v := .slice none 0 0) (by simp only [sx, argsFr, Sq, SI.wanted, AFr.ev, AFr.evV, AFr.get, AFr.box, AFr.put, AFr.setb, AV.val, callee, evArgs, aBin, aUn, oneCell, cellsOf, Value.cells, evParts, evElems, evAll, fillP, zeros, RetK, resAll, resOf, tupleOf, bnd, intOf?, AFr.keep, RefT.cells, undef, Nat.reduceBEq, Nat.reduceAdd, Nat.reduceMul, Nat.reduceLeDiff, Nat.reduceEqDiff, reduceCtorEq, Int.reduceEq, Int.reduceLT, Int.reduceLE, Int.reduceAdd, Int.reduceSub]) .nil rfl (by decide) (by simp only [srcOf, sx, argsFr, Sq, SI.wanted, AFr.ev, AFr.evV, AFr.get, AFr.box, AFr.put, AFr.setb, AV.val, callee, evArgs, aBin, aUn, oneCell, cellsOf, Value.cells, evParts, evElems, evAll, fillP, zeros, RetK, resAll, resOf, tupleOf, bnd, intOf?, AFr.keep, RefT.cells, undef, Nat.reduceBEq, Nat.reduceAdd, Nat.reduceMul, Nat.reduceLeDiff, Nat.reduceEqDiff, reduceCtorEq, Int.reduceEq, Int.reduceLT, Int.reduceLE, Int.reduceAdd, Int.reduceSub, hbv, hvl]) vl h1v rfl
        (show (0 + 1) * 40 ≤ maxN by decide) (fun v' N' σ' ho' hm' => ?_) hD
      simp only [sx, argsFr, Sq, SI.wanted, AFr.ev, AFr.evV, AFr.get, AFr.box, AFr.put, AFr.setb, AV.val, callee, evArgs, aBin, aUn, oneCell, cellsOf, Value.cells, evParts, evElems, evAll, fillP, zeros, RetK, resAll, resOf, tupleOf, bnd, intOf?, AFr.keep, RefT.cells, undef, Nat.reduceBEq, Nat.reduceAdd, Nat.reduceMul, Nat.reduceLeDiff, Nat.reduceEqDiff, reduceCtorEq, Int.reduceEq, Int.reduceLT, Int.reduceLE, Int.reduceAdd, Int.reduceSub]
      exact hR v' N' σ' ho' hm'
    | emp b off =>
      have : i = 0 := by simpa using hi
      subst this
      refine C_fn s94 (hA.at rfl) ?_
      have h02 : ¬ (0 = 2) := by decide
      simp only [s94, sx, argsFr, Sq, SI.wanted, AFr.ev, AFr.evV, AFr.get, AFr.box, AFr.put, AFr.setb, AV.val, callee, evArgs, aBin, aUn, oneCell, cellsOf, Value.cells, evParts, evElems, evAll, fillP, zeros, RetK, resAll, resOf, tupleOf, bnd, intOf?, AFr.keep, RefT.cells, undef, Nat.reduceBEq, Nat.reduceAdd, Nat.reduceMul, Nat.reduceLeDiff, Nat.reduceEqDiff, reduceCtorEq, Int.reduceEq, Int.reduceLT, Int.reduceLE, Int.reduceAdd, Int.reduceSub, stepOp.eq_20, e1, List.length_singleton, h02]
      refine Sr_app (K := entK) (D := D) (N := []) (xs := []) (ys := [y]) (new := (dv.drop ov).take 2) (v := .slice (some ⟨b, off, none⟩) 0 0) (by simp only [sx, argsFr, Sq, SI.wanted, AFr.ev, AFr.evV, AFr.get, AFr.box, AFr.put, AFr.setb, AV.val, callee, evArgs, aBin, aUn, oneCell, cellsOf, Value.cells, evParts, evElems, evAll, fillP, zeros, RetK, resAll, resOf, tupleOf, bnd, intOf?, AFr.keep, RefT.cells, undef, Nat.reduceBEq, Nat.reduceAdd, Nat.reduceMul, Nat.reduceLeDiff, Nat.reduceEqDiff, reduceCtorEq, Int.reduceEq, Int.reduceLT, Int.reduceLE, Int.reduceAdd, Int.reduceSub]) (.emp b off) rfl (by decide) (by simp only [srcOf, sx, argsFr, Sq, SI.wanted, AFr.ev, AFr.evV, AFr.get, AFr.box, AFr.put, AFr.setb, AV.val, callee, evArgs, aBin, aUn, oneCell, cellsOf, Value.cells, evParts, evElems, evAll, fillP, zeros, RetK, resAll, resOf, tupleOf, bnd, intOf?, AFr.keep, RefT.cells, undef, Nat.reduceBEq, Nat.reduceAdd, Nat.reduceMul, Nat.reduceLeDiff, Nat.reduceEqDiff, reduceCtorEq, Int.reduceEq, Int.reduceLT, Int.reduceLE, Int.reduceAdd, Int.reduceSub, hbv, hvl]) vl h1v rfl
        (show (0 + 1) * 40 ≤ maxN by decide) (fun v' N' σ' ho' hm' => ?_) hD
      simp only [sx, argsFr, Sq, SI.wanted, AFr.ev, AFr.evV, AFr.get, AFr.box, AFr.put, AFr.setb, AV.val, callee, evArgs, aBin, aUn, oneCell, cellsOf, Value.cells, evParts, evElems, evAll, fillP, zeros, RetK, resAll, resOf, tupleOf, bnd, intOf?, AFr.keep, RefT.cells, undef, Nat.reduceBEq, Nat.reduceAdd, Nat.reduceMul, Nat.reduceLeDiff, Nat.reduceEqDiff, reduceCtorEq, Int.reduceEq, Int.reduceLT, Int.reduceLE, Int.reduceAdd, Int.reduceSub]
      exact hR v' N' σ' ho' hm'
    | row b cs hn hDb hb hlc hc =>
      obtain ⟨B, hok, hprim⟩ := hA.ok
      have hne : bv ≠ b := fun e => hDv (by simp [e])
      have hone : ∀ v ∈ dv, oneCell v = true ∨ True := fun _ _ => .inr trivial
      have hlb := lt_of_get hb
      have hnew : (cs.take (i * 2) ++ (dv.drop ov).take 2 ++ cs.drop (i * 2)).length = (xs.take i ++ y :: xs.drop i).length * 2 := by
        have : entK.n = 2 := rfl
        rw [this] at hlc
        simp only [List.length_append, vl, List.length_take, List.length_drop, List.length_cons]
        omega
      have hlen : (xs.take i ++ y :: xs.drop i).length = xs.length + 1 := by simp only [List.length_append, List.length_take, List.length_drop, List.length_cons]; omega
      have hlist' : entK.list (b :: D) σ (cs.take (i * 2) ++ (dv.drop ov).take 2 ++ cs.drop (i * 2)) (xs.take i ++ y :: xs.drop i) := by
        have hn2 : entK.n = 2 := rfl
        have k1 := Kd.list_take (K := entK) hc i
        have k2 := Kd.list_drop (K := entK) hc i
        have t1 : (cs.take (i * 2)).length = (xs.take i).length * entK.n := by rw [hn2] at hlc ⊢; simp; omega
        have := Kd.list_append (K := entK) (by rw [List.length_append, List.length_append, Nat.add_mul, t1, vl]; rfl) (Kd.list_append (K := entK) t1 k1 h1v) k2
        simpa [show entK.n = 2 from rfl] using this
      obtain ⟨o1, o2⟩ := own_exact (K := entK) (e := 2) rfl hlb hD hDb hnew (by rw [hlen]; show (xs.length + 1) * 40 ≤ maxN; unfold maxN; omega) hlist'
      rw [hlen] at o1
      refine C_prim (hprim _ _ _ _ _ (snd_exact hok (by decide +kernel) hb (by decide) fun cap hcap => x94 hA hb hlc hi hl hcap hbv hvl hne)) (hR _ _ _ o1 o2)
end
end Go.Proofs.Ytbldkkabkijpgaa

namespace Go.Proofs.Ytbldkkabkijpgaa
open Go.Am

set_option linter.unusedSimpArgs false
section
variable {A : AProg} (hA : Prg A)
include hA

theorem x95 {σ : AHeap} {b n i j m cap bv ov cv ev : Nat} {cs dv : List Value} {mv : AMode} (hb : σ[b]? = some (.row cs 5 .W)) (hl : cs.length = n * 5) (hij : i < j) (hj : j ≤ n) (hn : n ≤ 1000) (hc : n ≤ cap) (hm0 : 0 < m) (hm : i + m ≤ j + 1)
    (hv : σ[bv]? = some (.row dv ev mv)) (hvl : ov + m * 5 ≤ dv.length) (hne : bv ≠ b) :
    C A 95 [.slice (some ⟨b, 0, some 5⟩) n cap, .int .i64 i, .int .i64 j, .slice (some ⟨bv, ov, none⟩) m cv] σ (Xr σ b 5 (cs.take (i * 5) ++ (dv.drop ov).take (m * 5) ++ cs.drop (j * 5)) (i + m + (n - j))) := by
  refine C_fn s95 (hA.at rfl) ?_
  have h1 : (0 : Int) ≤ (i : Int) ∧ (i : Int) ≤ (j : Int) := by omega
  have h2 : (i : Int).toNat = i := by omega
  have h3 : (0 : Int) ≤ (j : Int) ∧ (j : Int) ≤ (cap : Int) := by omega
  have h4 : j ≤ cap := by omega
  have h5 : ¬ ((i : Int) = (j : Int)) := by omega
  have hlb := lt_of_get hb
  have hlv := lt_of_get hv
  have vl : ((dv.drop ov).take (m * 5)).length = m * 5 := by simp; omega
  have tl : (cs.take (i * 5)).length = i * 5 := by simp; omega
  obtain ⟨k, rfl⟩ : ∃ k, m = k + 1 := ⟨m - 1, by omega⟩
  by_cases hjn : j = n
  · subst hjn
    have d1 : (i : Int) ≤ (cap : Int) := by omega
    have d2 : i ≤ cap := by omega
    have d3 : i * 5 ≤ cs.length := by omega
    by_cases hroom : i + (k + 1) ≤ cap
    · have hsp : splice cs (i * 5) ((dv.drop ov).take ((k + 1) * 5)) = cs.take (i * 5) ++ ((dv.drop ov).take ((k + 1) * 5) ++ cs.drop ((i + (k + 1)) * 5)) := by
        unfold splice
        rw [vl, List.append_assoc, ← Nat.add_mul]
      have g1 : ∀ x, (σ.setIfInBounds b x)[b]? = some x := fun x => Array.getElem?_setIfInBounds_self_of_lt hlb
      have hcond : (i + (k + 1)) * 5 ≤ cs.length → (i + (k + 1)) * 5 + (j - (i + (k + 1))) * 5 ≤ (cs.take (i * 5) ++ ((dv.drop ov).take ((k + 1) * 5) ++ cs.drop ((i + (k + 1)) * 5))).length := by
        intro h
        simp only [List.length_append, vl, tl, List.length_drop]
        omega
      have hnew : cs.take (i * 5) ++ (dv.drop ov).take ((k + 1) * 5) ++ cs.drop (j * 5) = cs.take (i * 5) ++ (dv.drop ov).take ((k + 1) * 5) := by
        rw [List.drop_eq_nil_of_le (show cs.length ≤ j * 5 by omega), List.append_nil]
      rw [hnew, Nat.sub_self, Nat.add_zero]
      simp only [s95, sx, argsFr, Sq, SI.wanted, AFr.ev, AFr.evV, AFr.get, AFr.box, AFr.put, AFr.setb, AV.val, callee, evArgs, aBin, aUn, oneCell, cellsOf, Value.cells, evParts, evElems, evAll, fillP, zeros, RetK, resAll, resOf, tupleOf, bnd, intOf?, AFr.keep, RefT.cells, undef, Nat.reduceBEq, Nat.reduceAdd, Nat.reduceMul, Nat.reduceLeDiff, Nat.reduceEqDiff, reduceCtorEq, Int.reduceEq, Int.reduceLT, Int.reduceLE, Int.reduceAdd, Int.reduceSub, stepOp.eq_20, stepOp.eq_31, srcOf, h1, h2, h3, h4, h5, hv, hb, hvl, hroom, d1, d2, d3, hsp]
      refine Cd_split (fun ht => ?_) (fun ht => ?_)
      · have ht' : i + (k + 1) < j := by simpa using ht
        have w1 : (0 : Int) ≤ ((i + (k + 1) : Nat) : Int) ∧ ((i + (k + 1) : Nat) : Int) ≤ (j : Int) := by omega
        have w2 : ¬ (j - (i + (k + 1)) = 0) := by omega
        have w3 := hcond (by omega)
        have w4 : i + (k + 1) ≤ j := by omega
        simp only [sx, argsFr, Sq, SI.wanted, AFr.ev, AFr.evV, AFr.get, AFr.box, AFr.put, AFr.setb, AV.val, callee, evArgs, aBin, aUn, oneCell, cellsOf, Value.cells, evParts, evElems, evAll, fillP, zeros, RetK, resAll, resOf, tupleOf, bnd, intOf?, AFr.keep, RefT.cells, undef, Nat.reduceBEq, Nat.reduceAdd, Nat.reduceMul, Nat.reduceLeDiff, Nat.reduceEqDiff, reduceCtorEq, Int.reduceEq, Int.reduceLT, Int.reduceLE, Int.reduceAdd, Int.reduceSub, stepOp.eq_20, stepOp.eq_39, w1, w2, w3, w4, h4, g1]
        refine ⟨b, zeros [.string ⟨#[]⟩, .int .u64 0, .int .i64 0, .int .i64 0, .int .i64 0] (j - (i + (k + 1))), some 5, cap, rfl, .inl rfl, .inl rfl, ?_, by simp, by simp, fun x hx hxb => ?_⟩
        · rw [Array.getElem?_setIfInBounds_self_of_lt (by simpa using hlb), ← List.append_assoc, spl_b]
          · simp only [List.length_append, tl, vl]; omega
          · rw [zeros_length, List.length_drop]; simp only [List.length_cons, List.length_nil]; omega
        · rw [Array.getElem?_setIfInBounds_ne (Ne.symm hxb), Array.getElem?_setIfInBounds_ne (Ne.symm hxb)]
      · simp only [sx, argsFr, Sq, SI.wanted, AFr.ev, AFr.evV, AFr.get, AFr.box, AFr.put, AFr.setb, AV.val, callee, evArgs, aBin, aUn, oneCell, cellsOf, Value.cells, evParts, evElems, evAll, fillP, zeros, RetK, resAll, resOf, tupleOf, bnd, intOf?, AFr.keep, RefT.cells, undef, Nat.reduceBEq, Nat.reduceAdd, Nat.reduceMul, Nat.reduceLeDiff, Nat.reduceEqDiff, reduceCtorEq, Int.reduceEq, Int.reduceLT, Int.reduceLE, Int.reduceAdd, Int.reduceSub]
        refine ⟨b, cs.drop ((i + (k + 1)) * 5), some 5, cap, rfl, .inl rfl, .inl rfl, ?_, by simp, by simp, fun x hx hxb => ?_⟩
        · rw [g1, List.append_assoc]
        · rw [Array.getElem?_setIfInBounds_ne (Ne.symm hxb)]
    · have w1 : (i + (k + 1)) * 48 ≤ 140737488355328 := by omega
      have w2 : ¬ (i + (k + 1) < j) := by omega
      have hnew : cs.take (i * 5) ++ (dv.drop ov).take ((k + 1) * 5) ++ cs.drop (j * 5) = cs.take (i * 5) ++ (dv.drop ov).take ((k + 1) * 5) := by
        rw [List.drop_eq_nil_of_le (show cs.length ≤ j * 5 by omega), List.append_nil]
      rw [hnew, Nat.sub_self, Nat.add_zero]
      simp only [s95, sx, argsFr, Sq, SI.wanted, AFr.ev, AFr.evV, AFr.get, AFr.box, AFr.put, AFr.setb, AV.val, callee, evArgs, aBin, aUn, oneCell, cellsOf, Value.cells, evParts, evElems, evAll, fillP, zeros, RetK, resAll, resOf, tupleOf, bnd, intOf?, AFr.keep, RefT.cells, undef, Nat.reduceBEq, Nat.reduceAdd, Nat.reduceMul, Nat.reduceLeDiff, Nat.reduceEqDiff, reduceCtorEq, Int.reduceEq, Int.reduceLT, Int.reduceLE, Int.reduceAdd, Int.reduceSub, stepOp.eq_20, stepOp.eq_31, srcOf, h1, h2, h3, h4, h5, hv, hb, hvl, hroom, d1, d2, d3, w1, w2]
      refine ⟨σ.size, [], none, i + (k + 1) + 5, rfl, .inr ⟨rfl, rfl⟩, .inr rfl, by simp, by simp, by simp, fun x hx hxb => ?_⟩
      rw [Array.getElem?_push, if_neg (by omega)]
  · have hjn' : ¬ ((j : Int) = (n : Int)) := by omega
    have a1 : (i : Int) ≤ (cap : Int) := by omega
    have a2 : i ≤ cap := by omega
    have a3 : (0 : Int) ≤ (j : Int) ∧ (j : Int) ≤ (n : Int) := by omega
    have a4 : (j : Int).toNat = j := by omega
    have t1 : IntKind.i64.wrap ((i : Int) + ((k + 1 : Nat) : Int)) = ((i + (k + 1) : Nat) : Int) := by rw [wrap_in (by omega) (by omega)]; omega
    have t2 : IntKind.i64.wrap (((i + (k + 1) : Nat) : Int) + ((n - j : Nat) : Int)) = ((i + (k + 1) + (n - j) : Nat) : Int) := by rw [wrap_in (by omega) (by omega)]; omega
    have t3 : IntKind.i64.wrap (((i + (k + 1) + (n - j) : Nat) : Int) - (i : Int)) = ((k + 1 + (n - j) : Nat) : Int) := by rw [wrap_in (by omega) (by omega)]; omega
    by_cases hroom : i + (k + 1) + (n - j) ≤ cap
    · have r1 : ¬ (((i + (k + 1) + (n - j) : Nat) : Int) > (cap : Int)) := by omega
      have r2 : ((i + (k + 1) + (n - j) : Nat) : Int) ≤ (cap : Int) := by omega
      have r3 : (i : Int) ≤ ((i + (k + 1) + (n - j) : Nat) : Int) ∧ i ≤ i + (k + 1) + (n - j) := by omega
      have r4 : i + (k + 1) + (n - j) ≤ cap := by omega
      have r5 : ((i + (k + 1) : Nat) : Int) ≤ ((i + (k + 1) + (n - j) : Nat) : Int) ∧ i + (k + 1) ≤ i + (k + 1) + (n - j) := by omega
      have r6 : i + (k + 1) + (n - j) - i = k + 1 + (n - j) := by omega
      have r7 : i + (k + 1) + (n - j) - (i + (k + 1)) = n - j := by omega
      have r8 : min (k + 1) (k + 1 + (n - j)) = k + 1 := by omega
      have r9 : (j : Int) ≤ (n : Int) := by omega
      have g1 : ∀ x, (σ.setIfInBounds b x)[b]? = some x := fun x => Array.getElem?_setIfInBounds_self_of_lt hlb
      have g2 : ∀ x, (σ.setIfInBounds b x)[bv]? = some (.row dv ev mv) := fun x => (Array.getElem?_setIfInBounds_ne (Ne.symm hne)).trans hv
      by_cases hfit : i + (k + 1) ≤ j
      · have hf : ((i + (k + 1) : Nat) : Int) ≤ (j : Int) := by omega
        have c1 : i * 5 + (k + 1 + (n - j)) * 5 ≤ cs.length := by omega
        have c2 : splice cs (i * 5) ((dv.drop ov).take ((k + 1) * 5)) = cs.take (i * 5) ++ ((dv.drop ov).take ((k + 1) * 5) ++ cs.drop ((i + (k + 1)) * 5)) := by
          unfold splice
          rw [vl, List.append_assoc, ← Nat.add_mul]
        have ll : (cs.take (i * 5) ++ ((dv.drop ov).take ((k + 1) * 5) ++ cs.drop ((i + (k + 1)) * 5))).length = n * 5 := by
          simp only [List.length_append, vl, tl, List.length_drop]
          omega
        have c3 : (i + (k + 1)) * 5 + (n - j) * 5 ≤ (cs.take (i * 5) ++ ((dv.drop ov).take ((k + 1) * 5) ++ cs.drop ((i + (k + 1)) * 5))).length := by rw [ll]; omega
        have c4 : j * 5 + (n - j) * 5 ≤ (cs.take (i * 5) ++ ((dv.drop ov).take ((k + 1) * 5) ++ cs.drop ((i + (k + 1)) * 5))).length := by rw [ll]; omega
        have c5 : (((cs.take (i * 5) ++ ((dv.drop ov).take ((k + 1) * 5) ++ cs.drop ((i + (k + 1)) * 5))).drop (j * 5)).take ((n - j) * 5)) = cs.drop (j * 5) := by
          rw [List.take_of_length_le (by rw [List.length_drop, ll]; omega), ← List.append_assoc, List.drop_append, List.drop_eq_nil_of_le (by rw [List.length_append, vl, tl]; omega), List.length_append, vl, tl, List.nil_append, List.drop_drop]
          congr 1
          omega
        have c6 : splice (cs.take (i * 5) ++ ((dv.drop ov).take ((k + 1) * 5) ++ cs.drop ((i + (k + 1)) * 5))) ((i + (k + 1)) * 5) (cs.drop (j * 5)) =
            (cs.take (i * 5) ++ (dv.drop ov).take ((k + 1) * 5) ++ cs.drop (j * 5)) ++ (cs.drop ((i + (k + 1)) * 5)).drop ((n - j) * 5) := by
          rw [← List.append_assoc, spl_a (k := (n - j) * 5) (by rw [List.length_append, vl, tl]; omega) (by rw [List.length_drop]; omega), List.append_assoc, List.append_assoc, List.append_assoc]
        have c7 : ((i + (k + 1) + (n - j) : Nat) : Int) ≤ (n : Int) := by omega
        have g3 : ∀ x y, ((σ.setIfInBounds b x).setIfInBounds b y)[b]? = some y := fun x y => Array.getElem?_setIfInBounds_self_of_lt (by simpa using hlb)
        have nl : (cs.take (i * 5) ++ (dv.drop ov).take ((k + 1) * 5) ++ cs.drop (j * 5)).length = (i + (k + 1) + (n - j)) * 5 := by
          simp only [List.length_append, vl, tl, List.length_drop]
          omega
        by_cases hz : n - (i + (k + 1) + (n - j)) = 0
        · simp only [s95, sx, argsFr, Sq, SI.wanted, AFr.ev, AFr.evV, AFr.get, AFr.box, AFr.put, AFr.setb, AV.val, callee, evArgs, aBin, aUn, oneCell, cellsOf, Value.cells, evParts, evElems, evAll, fillP, zeros, RetK, resAll, resOf, tupleOf, bnd, intOf?, AFr.keep, RefT.cells, undef, Nat.reduceBEq, Nat.reduceAdd, Nat.reduceMul, Nat.reduceLeDiff, Nat.reduceEqDiff, reduceCtorEq, Int.reduceEq, Int.reduceLT, Int.reduceLE, Int.reduceAdd, Int.reduceSub, stepOp.eq_20, stepOp.eq_31, stepOp.eq_32, stepOp.eq_38, stepOp.eq_39, srcOf, h1, h2, h3, h4, h5, hv, hb, hvl, hroom, hjn', a1, a2, a3, a4, t1, t2, t3, hc, r1, r2, r3, r4, r5, r6, r7, r8, r9, hf, c1, c2, c3, c4, c5, c6, c7, g1, g2, Nat.min_self, hz]
          refine ⟨b, (cs.drop ((i + (k + 1)) * 5)).drop ((n - j) * 5), some 5, cap, rfl, .inl rfl, .inl rfl, ?_, by simp, by simp, fun x hx hxb => ?_⟩
          · rw [g3]; simp only [List.append_assoc]
          · rw [Array.getElem?_setIfInBounds_ne (Ne.symm hxb), Array.getElem?_setIfInBounds_ne (Ne.symm hxb)]
        · have c8 : (i + (k + 1) + (n - j)) * 5 + (n - (i + (k + 1) + (n - j))) * 5 ≤ (cs.take (i * 5) ++ ((dv.drop ov).take ((k + 1) * 5) ++ (cs.drop (j * 5) ++ (cs.drop ((i + (k + 1)) * 5)).drop ((n - j) * 5)))).length := by
            simp only [List.length_append, vl, tl, List.length_drop]
            omega
          simp only [s95, sx, argsFr, Sq, SI.wanted, AFr.ev, AFr.evV, AFr.get, AFr.box, AFr.put, AFr.setb, AV.val, callee, evArgs, aBin, aUn, oneCell, cellsOf, Value.cells, evParts, evElems, evAll, fillP, zeros, RetK, resAll, resOf, tupleOf, bnd, intOf?, AFr.keep, RefT.cells, undef, Nat.reduceBEq, Nat.reduceAdd, Nat.reduceMul, Nat.reduceLeDiff, Nat.reduceEqDiff, reduceCtorEq, Int.reduceEq, Int.reduceLT, Int.reduceLE, Int.reduceAdd, Int.reduceSub, stepOp.eq_20, stepOp.eq_31, stepOp.eq_32, stepOp.eq_38, stepOp.eq_39, srcOf, h1, h2, h3, h4, h5, hv, hb, hvl, hroom, hjn', a1, a2, a3, a4, t1, t2, t3, hc, r1, r2, r3, r4, r5, r6, r7, r8, r9, hf, c1, c2, c3, c4, c5, c6, c7, c8, g1, g2, g3, Nat.min_self, hz]
          refine ⟨b, zeros [.string ⟨#[]⟩, .int .u64 0, .int .i64 0, .int .i64 0, .int .i64 0] (n - (i + (k + 1) + (n - j))), some 5, cap, rfl, .inl rfl, .inl rfl, ?_, by simp, by simp, fun x hx hxb => ?_⟩
          · rw [Array.getElem?_setIfInBounds_self_of_lt (by simpa using hlb)]
            have q : ∀ Zr : List Value, ((cs.drop ((i + (k + 1)) * 5)).drop ((n - j) * 5)).length ≤ Zr.length → splice (cs.take (i * 5) ++ ((dv.drop ov).take ((k + 1) * 5) ++ (cs.drop (j * 5) ++ (cs.drop ((i + (k + 1)) * 5)).drop ((n - j) * 5)))) ((i + (k + 1) + (n - j)) * 5) Zr =
                cs.take (i * 5) ++ (dv.drop ov).take ((k + 1) * 5) ++ cs.drop (j * 5) ++ Zr := fun Zr hZr => by
              rw [← spl_b nl hZr]
              simp only [List.append_assoc]
            rw [q]
            · simp only [List.append_assoc]
            · rw [zeros_length, List.length_drop, List.length_drop]; simp only [List.length_cons, List.length_nil]; omega
          · rw [Array.getElem?_setIfInBounds_ne (Ne.symm hxb), Array.getElem?_setIfInBounds_ne (Ne.symm hxb), Array.getElem?_setIfInBounds_ne (Ne.symm hxb)]
      · have hf : ¬ ((i + (k + 1) : Nat) : Int) ≤ (j : Int) := by omega
        have hij1 : i + (k + 1) = j + 1 := by omega
        have d0 : ¬ dv = [] := fun e => by rw [e] at hvl; simp at hvl
        have d1 : ¬ cs = [] := fun e => by rw [e] at hl; simp at hl; omega
        have d2 : ¬ b = bv := fun e => hne e.symm
        have c1 : (j + 1) * 5 ≤ cs.length ∧ j * 5 + (n - j) * 5 ≤ cs.length := ⟨by omega, by omega⟩
        have c1' : (j + 1) * 5 + (n - j) * 5 ≤ cs.length ↔ False := ⟨fun h => by omega, False.elim⟩
        have c2 : ((cs.drop (j * 5)).take ((n - j) * 5)) = cs.drop (j * 5) := List.take_of_length_le (by simp; omega)
        have c3 : splice cs ((j + 1) * 5) (cs.drop (j * 5)) = cs.take ((j + 1) * 5) ++ cs.drop (j * 5) := by
          unfold splice
          rw [List.drop_eq_nil_of_le (show cs.length ≤ (j + 1) * 5 + (cs.drop (j * 5)).length by simp; omega), List.append_nil]
        have c4 : i * 5 + (k + 1 + (n - j)) * 5 ≤ (cs.take ((j + 1) * 5) ++ cs.drop (j * 5)).length := by simp only [List.length_append, List.length_take, List.length_drop]; omega
        have c5 : splice (cs.take ((j + 1) * 5) ++ cs.drop (j * 5)) (i * 5) ((dv.drop ov).take ((k + 1) * 5)) = cs.take (i * 5) ++ ((dv.drop ov).take ((k + 1) * 5) ++ cs.drop (j * 5)) := by
          have q1 : cs.take ((j + 1) * 5) = cs.take (i * 5) ++ (cs.drop (i * 5)).take ((j + 1) * 5 - i * 5) := by
            rw [← List.take_add]
            congr 1
            omega
          rw [q1, List.append_assoc, spl_a tl vl, List.drop_append, List.drop_eq_nil_of_le (show ((cs.drop (i * 5)).take ((j + 1) * 5 - i * 5)).length ≤ (k + 1) * 5 by rw [List.length_take]; omega), List.nil_append]
          congr 2
          rw [List.length_take, List.length_drop, Nat.min_eq_left (by omega), show (k + 1) * 5 - ((j + 1) * 5 - i * 5) = 0 by omega, List.drop_zero]
        have g3 : ∀ x y, ((σ.setIfInBounds b x).setIfInBounds b y)[b]? = some y := fun x y => Array.getElem?_setIfInBounds_self_of_lt (by simpa using hlb)
        rw [hij1] at t1 t2 t3 r1 r2 r4 r5 r6 r7 hf hroom ⊢
        have r3' : (i : Int) ≤ ((j + 1 + (n - j) : Nat) : Int) ∧ i ≤ j + 1 + (n - j) := by omega
        simp only [s95, sx, argsFr, Sq, SI.wanted, AFr.ev, AFr.evV, AFr.get, AFr.box, AFr.put, AFr.setb, AV.val, callee, evArgs, aBin, aUn, oneCell, cellsOf, Value.cells, evParts, evElems, evAll, fillP, zeros, RetK, resAll, resOf, tupleOf, bnd, intOf?, AFr.keep, RefT.cells, undef, Nat.reduceBEq, Nat.reduceAdd, Nat.reduceMul, Nat.reduceLeDiff, Nat.reduceEqDiff, reduceCtorEq, Int.reduceEq, Int.reduceLT, Int.reduceLE, Int.reduceAdd, Int.reduceSub, stepOp.eq_20, stepOp.eq_31, stepOp.eq_32, stepOp.eq_38, stepOp.eq_39, stepOp.eq_42, srcOf, h1, h2, h3, h4, h5, hv, hb, hvl, hroom, hjn', a1, a2, a3, a4, t1, t2, t3, hc, r1, r2, r3', r4, r5, r6, r7, r8, r9, hf, c1, c1', c2, c3, c4, c5, d0, d1, d2, g1, g2, Nat.min_self]
        refine ⟨b, [], some 5, cap, rfl, .inl rfl, .inl rfl, ?_, by simp, by simp, fun x hx hxb => ?_⟩
        · rw [g3]; simp only [List.append_assoc, List.append_nil]
        · rw [Array.getElem?_setIfInBounds_ne (Ne.symm hxb), Array.getElem?_setIfInBounds_ne (Ne.symm hxb)]
    · have r1 : (((i + (k + 1) + (n - j) : Nat) : Int) > (cap : Int)) := by omega
      have r2 : (0 : Int) < ((k + 1 + (n - j) : Nat) : Int) := by omega
      have r3 : i + (k + 1 + (n - j)) = i + (k + 1) + (n - j) := by omega
      have r4 : cap < i + (k + 1) + (n - j) := by omega
      have r5 : i * 5 ≤ cs.length ∧ (i + (k + 1) + (n - j)) * 48 ≤ 140737488355328 := by omega
      have r6 : (i : Int) ≤ ((i + (k + 1) + (n - j) : Nat) : Int) := by omega
      have r7 : i + (k + 1) + (n - j) - i = k + 1 + (n - j) := by omega
      have r8 : min (k + 1) (k + 1 + (n - j)) = k + 1 := by omega
      have r9 : ((i + (k + 1) : Nat) : Int) ≤ ((i + (k + 1) + (n - j) : Nat) : Int) := by omega
      have r10 : i + (k + 1) + (n - j) - (i + (k + 1)) = n - j := by omega
      have r11 : (j : Int) ≤ (n : Int) := by omega
      have zl : (zeros [.string ⟨#[]⟩, .int .u64 0, .int .i64 0, .int .i64 0, .int .i64 0] (k + 1 + (n - j))).length = (k + 1 + (n - j)) * 5 := by rw [zeros_length]; rfl
      generalize hZ : zeros [.string ⟨#[]⟩, .int .u64 0, .int .i64 0, .int .i64 0, .int .i64 0] (k + 1 + (n - j)) = Z at zl
      have p1 : ∀ x, (σ.push x)[σ.size]? = some x := fun x => by simp
      have p2 : ∀ x, (σ.push x)[bv]? = some (.row dv ev mv) := fun x => by rw [Array.getElem?_push, if_neg (by omega)]; exact hv
      have p3 : ∀ x y, ((σ.push x).setIfInBounds σ.size y)[σ.size]? = some y := fun x y => Array.getElem?_setIfInBounds_self_of_lt (by simp)
      have p4 : ∀ x y, ((σ.push x).setIfInBounds σ.size y)[b]? = some (.row cs 5 .W) := fun x y => by rw [Array.getElem?_setIfInBounds_ne (by omega), Array.getElem?_push, if_neg (by omega)]; exact hb
      have q1 : i * 5 + (k + 1 + (n - j)) * 5 ≤ (cs.take (i * 5) ++ Z).length := by rw [List.length_append, zl, tl]; omega
      have q3 : splice (cs.take (i * 5) ++ Z) (i * 5) ((dv.drop ov).take ((k + 1) * 5)) = cs.take (i * 5) ++ ((dv.drop ov).take ((k + 1) * 5) ++ Z.drop ((k + 1) * 5)) := spl_a tl vl
      have q5 : (i + (k + 1)) * 5 + (n - j) * 5 ≤ (cs.take (i * 5) ++ ((dv.drop ov).take ((k + 1) * 5) ++ Z.drop ((k + 1) * 5))).length := by simp only [List.length_append, vl, tl, List.length_drop, zl]; omega
      have q7 : j * 5 + (n - j) * 5 ≤ cs.length := by omega
      have q8 : (cs.drop (j * 5)).take ((n - j) * 5) = cs.drop (j * 5) := List.take_of_length_le (by simp; omega)
      have q6 : splice (cs.take (i * 5) ++ ((dv.drop ov).take ((k + 1) * 5) ++ Z.drop ((k + 1) * 5))) ((i + (k + 1)) * 5) (cs.drop (j * 5)) = cs.take (i * 5) ++ ((dv.drop ov).take ((k + 1) * 5) ++ cs.drop (j * 5)) := by
        rw [← List.append_assoc, spl_b (by rw [List.length_append, vl, tl]; omega) (by simp only [List.length_drop, zl]; omega), List.append_assoc]
      simp only [s95, sx, argsFr, Sq, SI.wanted, AFr.ev, AFr.evV, AFr.get, AFr.box, AFr.put, AFr.setb, AV.val, callee, evArgs, aBin, aUn, oneCell, cellsOf, Value.cells, evParts, evElems, evAll, fillP, zeros, RetK, resAll, resOf, tupleOf, bnd, intOf?, AFr.keep, RefT.cells, undef, Nat.reduceBEq, Nat.reduceAdd, Nat.reduceMul, Nat.reduceLeDiff, Nat.reduceEqDiff, reduceCtorEq, Int.reduceEq, Int.reduceLT, Int.reduceLE, Int.reduceAdd, Int.reduceSub, stepOp.eq_20, stepOp.eq_31, stepOp.eq_32, stepOp.eq_38, stepOp.eq_41, srcOf, h1, h2, h3, h4, h5, hv, hb, hvl, hroom, hjn', a1, a2, a3, a4, t1, t2, t3, hc, r1, r2, r3, r4, r5, r6, r7, r8, r9, r10, r11, hZ, p1, p2, p3, p4, q1, q3, q5, q6, q7, q8, Nat.min_self]
      refine ⟨σ.size, [], none, i + (k + 1) + (n - j) + 5, rfl, .inr ⟨rfl, rfl⟩, .inr rfl, ?_, by simp, by simp, fun x hx hxb => ?_⟩
      · rw [Array.getElem?_setIfInBounds_self_of_lt (by simp)]
        simp
      · rw [Array.getElem?_setIfInBounds_ne (by omega), Array.getElem?_setIfInBounds_ne (by omega), Array.getElem?_push, if_neg (by omega)]

theorem c95 {D N σ v vv} {xs ys : List KidT} {i j : Nat} (ho : Own kidK D σ N v xs) (hv : SlR kidK (N ++ D) σ vv ys) (hij : i < j) (hj : j ≤ xs.length) (hl : xs.length ≤ 1000) (hy0 : 0 < ys.length) (hy : i + ys.length ≤ j + 1) (hD : ∀ b ∈ D, b < σ.size)
    {R : Value → AHeap → Prop} (hR : ∀ v' N' σ', Own kidK D σ' N' v' (xs.take i ++ ys ++ xs.drop j) → Mv N σ N' σ' → R v' σ') : C A 95 [v, .int .i64 i, .int .i64 j, vv] σ R := by
  cases ho with
  | nil => simp at hj; omega
  | emp => simp at hj; omega
  | row b cs hn hDb hb hlc hc =>
    cases hv with
    | nil => simp at hy0
    | emp => simp at hy0
    | row bv ov cv dv ev mv hnv hcv hDv hbv hlv hlist =>
      obtain ⟨B, hok, hprim⟩ := hA.ok
      have hne : bv ≠ b := fun e => hDv (by simp [e])
      have hlb := lt_of_get hb
      have hn5 : kidK.n = 5 := rfl
      rw [hn5] at hlc hlv
      have vl : ((dv.drop ov).take (ys.length * 5)).length = ys.length * 5 := by simp; omega
      have h1v : kidK.list (b :: D) σ ((dv.drop ov).take (ys.length * 5)) ys := by
        have := Kd.list_take (K := kidK) hlist ys.length
        simpa [hn5] using this
      have hlen : (xs.take i ++ ys ++ xs.drop j).length = i + ys.length + (xs.length - j) := by simp only [List.length_append, List.length_take, List.length_drop]; omega
      have hnew : (cs.take (i * 5) ++ (dv.drop ov).take (ys.length * 5) ++ cs.drop (j * 5)).length = (xs.take i ++ ys ++ xs.drop j).length * 5 := by
        rw [hlen]
        simp only [List.length_append, vl, List.length_take, List.length_drop]
        omega
      have hlist' : kidK.list (b :: D) σ (cs.take (i * 5) ++ (dv.drop ov).take (ys.length * 5) ++ cs.drop (j * 5)) (xs.take i ++ ys ++ xs.drop j) := by
        have k1 := Kd.list_take (K := kidK) hc i
        have k2 := Kd.list_drop (K := kidK) hc j
        rw [hn5] at k1 k2
        have t1 : (cs.take (i * 5)).length = (xs.take i).length * kidK.n := by rw [hn5]; simp; omega
        exact Kd.list_append (K := kidK) (by rw [List.length_append, List.length_append, Nat.add_mul, t1, vl, hn5]) (Kd.list_append (K := kidK) t1 k1 h1v) k2
      obtain ⟨o1, o2⟩ := own_exact (K := kidK) (e := 5) rfl hlb hD hDb hnew (by rw [hlen]; show (i + ys.length + (xs.length - j)) * 48 ≤ maxN; unfold maxN; omega) hlist'
      rw [hlen] at o1
      exact C_prim (hprim _ _ _ _ _ (snd_exact hok (by decide +kernel) hb (by decide) fun cap hcap => x95 hA hb hlc hij hj hl hcap hy0 hy hbv hlv hne)) (hR _ _ _ o1 o2)
end
end Go.Proofs.Ytbldkkabkijpgaa

namespace Go.Proofs.Ytbldkkabkijpgaa
open Go.Am

set_option linter.unusedSimpArgs false
section
variable {A : AProg} (hA : Prg A)
include hA

theorem x105 {σ : AHeap} {b n i cap : Nat} {cs : List Value} (hb : σ[b]? = some (.row cs 2 .W)) (hl : cs.length = n * 2) (hi : i < n) (hn : n ≤ 1000) (hc : n ≤ cap) :
    C A 105 [.slice (some ⟨b, 0, some 2⟩) n cap, .int .i64 i, .int .i64 (i + 1 : Nat)] σ (Xr σ b 2 (cs.take (i * 2) ++ cs.drop ((i + 1) * 2)) (n - 1)) := by
  refine C_fn s105 (hA.at rfl) ?_
  have hlb := lt_of_get hb
  have h1 : (0 : Int) ≤ (i : Int) ∧ (i : Int) ≤ ((i + 1 : Nat) : Int) := by omega
  have h2 : (0 : Int) ≤ ((i + 1 : Nat) : Int) ∧ ((i + 1 : Nat) : Int) ≤ (n : Int) := by omega
  have h3 : (0 : Int) ≤ (n : Int) ∧ (n : Int) ≤ (cap : Int) := by omega
  have h4 : (i : Int).toNat = i := by omega
  have h5 : i + 1 ≤ n := by omega
  have h6 : ¬ ((i : Int) = ((i + 1 : Nat) : Int)) := by omega
  have h7 : (i : Int) ≤ (cap : Int) ∧ i ≤ cap := by omega
  obtain ⟨k, hk⟩ : ∃ k, n - (i + 1) = k := ⟨_, rfl⟩
  have tl : (cs.take (i * 2)).length = i * 2 := by simp; omega
  have z2 : zeros [.string ⟨#[]⟩, .slice none 0 0] 1 = [.string ⟨#[]⟩, .slice none 0 0] := rfl
  cases k with
  | zero =>
    have hin : n = i + 1 := by omega
    have d2 : (i : Int) ≤ (n : Int) := by omega
    have d3 : n - i = 1 := by omega
    have d4 : i * 2 + 2 ≤ cs.length := by omega
    have hsp : splice cs (i * 2) [.string ⟨#[]⟩, .slice none 0 0] = cs.take (i * 2) ++ [.string ⟨#[]⟩, .slice none 0 0] := by
      unfold splice
      rw [List.drop_eq_nil_of_le (show cs.length ≤ i * 2 + [Value.string ⟨#[]⟩, Value.slice none 0 0].length by simp; omega), List.append_nil]
    simp only [s105, sx, argsFr, Sq, SI.wanted, AFr.ev, AFr.evV, AFr.get, AFr.box, AFr.put, AFr.setb, AV.val, callee, evArgs, aBin, aUn, oneCell, cellsOf, Value.cells, evParts, evElems, evAll, fillP, zeros, RetK, resAll, resOf, tupleOf, bnd, intOf?, AFr.keep, RefT.cells, undef, Nat.reduceBEq, Nat.reduceAdd, Nat.reduceMul, Nat.reduceLeDiff, Nat.reduceEqDiff, reduceCtorEq, Int.reduceEq, Int.reduceLT, Int.reduceLE, Int.reduceAdd, Int.reduceSub, stepOp.eq_20, stepOp.eq_31, stepOp.eq_39, srcOf, h1, h2, h3, h4, h5, h6, h7, hc, hb, hk, d2, d3, d4, hsp]
    refine ⟨b, [.string ⟨#[]⟩, .slice none 0 0], some 2, cap, by rw [show n - 1 = i by omega], .inl rfl, .inl rfl, ?_, by simp, by simp, fun x hx hxb => ?_⟩
    · rw [Array.getElem?_setIfInBounds_self_of_lt hlb, List.drop_eq_nil_of_le (show cs.length ≤ (i + 1) * 2 by omega), List.append_nil]
    · rw [Array.getElem?_setIfInBounds_ne (Ne.symm hxb)]
  | succ k =>
    have e0 : (i + 1) * 2 + (k + 1) * 2 ≤ cs.length := by omega
    have e1 : (cs.drop ((i + 1) * 2)).take ((k + 1) * 2) = cs.drop ((i + 1) * 2) := List.take_of_length_le (by simp; omega)
    have e2 : i + (k + 1) ≤ cap := by omega
    have e3 : i * 2 ≤ cs.length := by omega
    have dl : (cs.drop ((i + 1) * 2)).length = (k + 1) * 2 := by simp; omega
    have e4 : splice cs (i * 2) (cs.drop ((i + 1) * 2)) = cs.take (i * 2) ++ (cs.drop ((i + 1) * 2) ++ cs.drop ((i + (k + 1)) * 2)) := by
      unfold splice
      rw [dl, List.append_assoc, ← Nat.add_mul]
    have e5 : ((i + (k + 1) : Nat) : Int) ≤ (n : Int) := by omega
    have e6 : n - (i + (k + 1)) = 1 := by omega
    have e7 : (i + (k + 1)) * 2 + 2 ≤ (cs.take (i * 2) ++ (cs.drop ((i + 1) * 2) ++ cs.drop ((i + (k + 1)) * 2))).length := by
      simp only [List.length_append, tl, List.length_drop]
      omega
    have e8 : splice (cs.take (i * 2) ++ (cs.drop ((i + 1) * 2) ++ cs.drop ((i + (k + 1)) * 2))) ((i + (k + 1)) * 2) [.string ⟨#[]⟩, .slice none 0 0] = cs.take (i * 2) ++ (cs.drop ((i + 1) * 2) ++ [.string ⟨#[]⟩, .slice none 0 0]) := by
      rw [← List.append_assoc, spl_b (by rw [List.length_append, tl, dl]; omega) (by simp; omega), List.append_assoc]
    have g1 : ∀ x, (σ.setIfInBounds b x)[b]? = some x := fun x => Array.getElem?_setIfInBounds_self_of_lt hlb
    simp only [s105, sx, argsFr, Sq, SI.wanted, AFr.ev, AFr.evV, AFr.get, AFr.box, AFr.put, AFr.setb, AV.val, callee, evArgs, aBin, aUn, oneCell, cellsOf, Value.cells, evParts, evElems, evAll, fillP, zeros, RetK, resAll, resOf, tupleOf, bnd, intOf?, AFr.keep, RefT.cells, undef, Nat.reduceBEq, Nat.reduceAdd, Nat.reduceMul, Nat.reduceLeDiff, Nat.reduceEqDiff, reduceCtorEq, Int.reduceEq, Int.reduceLT, Int.reduceLE, Int.reduceAdd, Int.reduceSub, stepOp.eq_20, stepOp.eq_31, stepOp.eq_39, srcOf, h1, h2, h3, h4, h5, h6, h7, hc, hb, hk, e0, e1, e2, e3, e4, e5, e6, e7, e8, g1]
    refine ⟨b, [.string ⟨#[]⟩, .slice none 0 0], some 2, cap, by rw [show n - 1 = i + (k + 1) by omega], .inl rfl, .inl rfl, ?_, by simp, by simp, fun x hx hxb => ?_⟩
    · rw [Array.getElem?_setIfInBounds_self_of_lt (by simpa using hlb), List.append_assoc]
    · rw [Array.getElem?_setIfInBounds_ne (Ne.symm hxb), Array.getElem?_setIfInBounds_ne (Ne.symm hxb)]

theorem c105 {D N σ v} {xs : List Ent} {i : Nat} (ho : Own entK D σ N v xs) (hi : i < xs.length) (hl : xs.length ≤ 1000) (hD : ∀ b ∈ D, b < σ.size)
    {R : Value → AHeap → Prop} (hR : ∀ v' N' σ', Own entK D σ' N' v' (xs.eraseIdx i) → Mv N σ N' σ' → R v' σ') : C A 105 [v, .int .i64 i, .int .i64 (i + 1 : Nat)] σ R := by
  cases ho with
  | nil => simp at hi
  | emp => simp at hi
  | row b cs hn hDb hb hlc hc =>
    obtain ⟨B, hok, hprim⟩ := hA.ok
    have hlb := lt_of_get hb
    have hn2 : entK.n = 2 := rfl
    rw [hn2] at hlc
    have he : xs.eraseIdx i = xs.take i ++ xs.drop (i + 1) := List.eraseIdx_eq_take_drop_succ ..
    have hlen : (xs.take i ++ xs.drop (i + 1)).length = xs.length - 1 := by simp only [List.length_append, List.length_take, List.length_drop]; omega
    have hnew : (cs.take (i * 2) ++ cs.drop ((i + 1) * 2)).length = (xs.take i ++ xs.drop (i + 1)).length * 2 := by
      rw [hlen]
      simp only [List.length_append, List.length_take, List.length_drop]
      omega
    have hlist' : entK.list (b :: D) σ (cs.take (i * 2) ++ cs.drop ((i + 1) * 2)) (xs.take i ++ xs.drop (i + 1)) := by
      have k1 := Kd.list_take (K := entK) hc i
      have k2 := Kd.list_drop (K := entK) hc (i + 1)
      rw [hn2] at k1 k2
      exact Kd.list_append (K := entK) (by rw [hn2]; simp; omega) k1 k2
    obtain ⟨o1, o2⟩ := own_exact (K := entK) (e := 2) rfl hlb hD hDb hnew (by rw [hlen]; show (xs.length - 1) * 40 ≤ maxN; unfold maxN; omega) hlist'
    rw [hlen] at o1
    rw [he] at hR
    exact C_prim (hprim _ _ _ _ _ (snd_exact hok (by decide +kernel) hb (by decide) fun cap hcap => x105 hA hb hlc hi hl hcap)) (hR _ _ _ o1 o2)
end
end Go.Proofs.Ytbldkkabkijpgaa

namespace Go.Proofs.Ytbldkkabkijpgaa
open Go.Am

/-- A part as it is handed up: one, or two halves. -/
def splitP (x : NodeT) : List NodeT := if 4 < sizeP x then halvesP x else [x]

def putLeaf (x : NodeT) (e : Ent) : NodeT :=
  ⟨x.leaf, if bsIs x.es e.name then x.es.set (bsP x.es e.name) e else x.es.take (bsP x.es e.name) ++ e :: x.es.drop (bsP x.es e.name), x.ks⟩

section
variable {A : AProg} {S : Type} (P : Store A S)

/-- What comes of a page with a secret put in; -1: a node of more than 1000 parts, of which nothing is said here. -/
def putP (e : Ent) : Nat → S → RefT → Except Int (List NodeT) × S
  | 0, s, _ => (.error 70, s)
  | u + 1, s, r =>
    match atP P s r (8 - u) with
    | (.error e', s') => (.error e', s')
    | (.ok x, s') =>
      if 1000 < x.es.length ∨ 1000 < x.ks.length then (.error (-1), s') else
      if x.leaf then (.ok (splitP (putLeaf x e)), s') else
      match x.ks[belowP x.ks e.name]? with
      | none => (.error (-1), s')
      | some k =>
        match putP e u s' k.ref with
        | (.error e', s2) => (.error e', s2)
        | (.ok l, s2) =>
          match layA P s2 [] l with
          | (.error e', s3) => (.error e', s3)
          | (.ok kids, s3) => (.ok (splitP ⟨x.leaf, x.es, x.ks.take (belowP x.ks e.name) ++ kids ++ x.ks.drop (belowP x.ks e.name + 1)⟩), s3)

theorem bsGo_le (es : List Ent) (name : ByteArray) : ∀ (u i j : Nat), i ≤ j → bsGo es name u i j ≤ j
  | 0, _, _, h => h
  | u + 1, i, j, h => by
    unfold bsGo
    split
    · split
      · split
        · exact bsGo_le es name u _ _ (by omega)
        · exact Nat.le_trans (bsGo_le es name u _ _ (by omega)) (by omega)
      · exact h
    · exact h

theorem bsP_le (es : List Ent) (name : ByteArray) : bsP es name ≤ es.length := bsGo_le es name _ _ _ (Nat.zero_le _)
end
end Go.Proofs.Ytbldkkabkijpgaa

namespace Go.Proofs.Ytbldkkabkijpgaa
open Go.Am

theorem bsIs_lt {es : List Ent} {name : ByteArray} (h : bsIs es name = true) : bsP es name < es.length := by
  unfold bsIs at h
  split at h
  · rename_i e he
    rcases Nat.lt_or_ge (bsP es name) es.length with h' | h'
    · exact h'
    · rw [List.getElem?_eq_none h'] at he; simp at he
  · simp at h

theorem splitP_len (x : NodeT) : (splitP x).length ≤ 2 := by
  unfold splitP halvesP
  split
  · split <;> simp
  · simp

theorem putP_len {A : AProg} {S : Type} (P : Store A S) {e : Ent} {u : Nat} {s s' : S} {r : RefT} {l : List NodeT} (h : putP P e u s r = (.ok l, s')) : l.length ≤ 2 := by
  cases u with
  | zero => simp [putP] at h
  | succ u =>
    simp only [putP] at h
    repeat' split at h
    all_goals first
      | (simp at h; done)
      | (simp only [Prod.mk.injEq, Except.ok.injEq] at h; rw [← h.1]; exact splitP_len _)

theorem splitP_pos (x : NodeT) : 0 < (splitP x).length := by
  unfold splitP halvesP
  split
  · split <;> simp
  · simp

theorem putP_pos {A : AProg} {S : Type} (P : Store A S) {e : Ent} {u : Nat} {s s' : S} {r : RefT} {l : List NodeT} (h : putP P e u s r = (.ok l, s')) : 0 < l.length := by
  cases u with
  | zero => simp [putP] at h
  | succ u =>
    simp only [putP] at h
    repeat' split at h
    all_goals first
      | (simp at h; done)
      | (simp only [Prod.mk.injEq, Except.ok.injEq] at h; rw [← h.1]; exact splitP_pos _)

theorem layA_len {A : AProg} {S : Type} (P : Store A S) : ∀ (l : List NodeT) (s : S) (acc ks : List KidT) (s' : S), layA P s acc l = (.ok ks, s') → ks.length = acc.length + l.length
  | [], s, acc, ks, s', h => by simp [layA] at h; simp [h.1]
  | x :: l, s, acc, ks, s', h => by
    simp only [layA] at h
    split at h
    · simp at h
    · have := layA_len P l _ _ _ _ h
      simp at this ⊢
      omega

set_option linter.unusedSimpArgs false
section
variable {A : AProg} (hA : Prg A)
variable {S : Type} (P : Store A S)

include hA in
theorem c55 {e : Ent} : ∀ (u : Nat) {D0 N σ s vs s'} {r : RefT} {deep : Nat} {l : List NodeT}, deep + u = 9 → P.is D0 N σ s → SlR verK (N ++ D0) σ vs e.vs → (∀ b ∈ D0, b < σ.size) →
    putP P e u s r = (.ok l, s') → ∀ {R : Value → AHeap → Prop}, (∀ v' N' σ', P.is D0 N' σ' s' → SlR nodeK (N' ++ D0) σ' v' l → Mv N σ N' σ' → R (.tuple #[v', .int .i64 0]) σ') →
    C A 55 [.agg #[.iface P.ti P.pv], .agg #[.int .u64 r.key, .int .i64 r.seg, .int .i64 r.off, .int .i64 r.len], .agg #[.string e.name, vs], .int .i64 deep] σ R := by
  intro u
  induction u with
  | zero =>
    intro D0 N σ s vs s' r deep l hu hh hs hD hok
    simp [putP] at hok
  | succ u ihu =>
    intro D0 N σ s vs s' r deep l hu hh hs hD hok R h1
    have hdeep : deep = 8 - u := by omega
    subst hdeep
    refine C_fn s55 (hA.at rfl) ?_
    obtain ⟨base, c, rfl⟩ := hs.shape
    simp only [s55, sx, argsFr, Sq, SI.wanted, AFr.ev, AFr.evV, AFr.get, AFr.box, AFr.put, AFr.setb, AV.val, callee, evArgs, aBin, aUn, oneCell, cellsOf, Value.cells, evParts, evElems, evAll, fillP, zeros, RetK, resAll, resOf, tupleOf, bnd, intOf?, AFr.keep, RefT.cells, undef, Nat.reduceBEq, Nat.reduceAdd, Nat.reduceMul, Nat.reduceLeDiff, Nat.reduceEqDiff, reduceCtorEq, Int.reduceEq, Int.reduceLT, Int.reduceLE, Int.reduceAdd, Int.reduceSub]
    simp only [putP] at hok
    refine Or.inl (c83 hA P hh hD (fun e1 s1 N' σ1 hr he hi hm => ?_) (fun x s1 ve vk N1 N2 N' σ1 hr hi hn hm => ?_))
    · rw [hr] at hok
      simp at hok
    · rw [hr] at hok
      simp only at hok
      by_cases hbig : 1000 < x.es.length ∨ 1000 < x.ks.length
      · rw [if_pos hbig] at hok
        simp at hok
      rw [if_neg hbig] at hok
      obtain ⟨_, _, hcel, hwe, hwk⟩ := hn.rel
      simp only [List.cons.injEq, true_and, and_true] at hcel
      obtain ⟨rfl, rfl⟩ := hcel
      obtain ⟨b3, c3, rfl⟩ := hwe.shape
      obtain ⟨b4, c4, rfl⟩ := hwk.shape
      simp only [sx, argsFr, Sq, SI.wanted, AFr.ev, AFr.evV, AFr.get, AFr.box, AFr.put, AFr.setb, AV.val, callee, evArgs, aBin, aUn, oneCell, cellsOf, Value.cells, evParts, evElems, evAll, fillP, zeros, RetK, resAll, resOf, tupleOf, bnd, intOf?, AFr.keep, RefT.cells, undef, Nat.reduceBEq, Nat.reduceAdd, Nat.reduceMul, Nat.reduceLeDiff, Nat.reduceEqDiff, reduceCtorEq, Int.reduceEq, Int.reduceLT, Int.reduceLE, Int.reduceAdd, Int.reduceSub]
      cases hl : x.leaf with
      | true =>
        simp only [sx, argsFr, Sq, SI.wanted, AFr.ev, AFr.evV, AFr.get, AFr.box, AFr.put, AFr.setb, AV.val, callee, evArgs, aBin, aUn, oneCell, cellsOf, Value.cells, evParts, evElems, evAll, fillP, zeros, RetK, resAll, resOf, tupleOf, bnd, intOf?, AFr.keep, RefT.cells, undef, Nat.reduceBEq, Nat.reduceAdd, Nat.reduceMul, Nat.reduceLeDiff, Nat.reduceEqDiff, reduceCtorEq, Int.reduceEq, Int.reduceLT, Int.reduceLE, Int.reduceAdd, Int.reduceSub]
        rw [if_pos hl] at hok
        refine Or.inl (c85 hA (x := ⟨true, x.es, x.ks⟩) hwe hwk ?_)
        simp only [sx, argsFr, Sq, SI.wanted, AFr.ev, AFr.evV, AFr.get, AFr.box, AFr.put, AFr.setb, AV.val, callee, evArgs, aBin, aUn, oneCell, cellsOf, Value.cells, evParts, evElems, evAll, fillP, zeros, RetK, resAll, resOf, tupleOf, bnd, intOf?, AFr.keep, RefT.cells, undef, Nat.reduceBEq, Nat.reduceAdd, Nat.reduceMul, Nat.reduceLeDiff, Nat.reduceEqDiff, reduceCtorEq, Int.reduceEq, Int.reduceLT, Int.reduceLE, Int.reduceAdd, Int.reduceSub]
        have hD0 : ∀ q ∈ D0, q < σ1.size := fun q hq => Nat.lt_of_lt_of_le (hD q hq) hm.size
        cases hbs : bsIs x.es e.name with
        | true =>
          have hlt := bsIs_lt hbs
          obtain ⟨b, cs, rfl, rfl, hb, hlen, _, hset⟩ := hn.es.setPart (j := 2) rfl (List.getElem?_eq_getElem hlt)
          have hs1 : SlR verK ([b] ++ (N2 ++ (N' ++ D0))) σ1 (.slice base e.vs.length c) e.vs :=
            hs.step (hm.mono (fun q hq => by simp [hq]) fun q hq => by simp only [List.mem_append] at hq ⊢; grind)
          have hq : splice ((cs.drop (bsP x.es e.name * 2)).take 2) 0 [.string e.name, .slice base e.vs.length c] = [.string e.name, .slice base e.vs.length c] := by
            have hl2 : ((cs.drop (bsP x.es e.name * 2)).take 2).length = 2 := by simp; omega
            simp [splice, hl2]
          have hos := hset 0 [.string e.name, .slice base e.vs.length c] e (by simp) (by rw [hq]; exact ⟨_, rfl, hs1⟩)
          simp only [Nat.add_zero] at hos
          have hl1 : bsP x.es e.name * 2 + 2 ≤ cs.length := hlen
          simp only [sx, argsFr, Sq, SI.wanted, AFr.ev, AFr.evV, AFr.get, AFr.box, AFr.put, AFr.setb, AV.val, callee, evArgs, aBin, aUn, oneCell, cellsOf, Value.cells, evParts, evElems, evAll, fillP, zeros, RetK, resAll, resOf, tupleOf, bnd, intOf?, AFr.keep, RefT.cells, undef, Nat.reduceBEq, Nat.reduceAdd, Nat.reduceMul, Nat.reduceLeDiff, Nat.reduceEqDiff, reduceCtorEq, Int.reduceEq, Int.reduceLT, Int.reduceLE, Int.reduceAdd, Int.reduceSub, hlt, hb, hl1]
          have hn' : NodeO (N' ++ D0) [b] N2 (σ1.setIfInBounds b (.row (splice cs (bsP x.es e.name * 2) [.string e.name, .slice base e.vs.length c]) 2 .W)) (.slice (some ⟨b, 0, none⟩) x.es.length c3) (.slice b4 x.ks.length c4) (putLeaf x e) := by
            refine ⟨?_, hn.ks.step (Mv.set _ (by simp))⟩
            simpa [putLeaf, hbs] using hos
          have his' : P.is D0 N' (σ1.setIfInBounds b (.row (splice cs (bsP x.es e.name * 2) [.string e.name, .slice base e.vs.length c]) 2 .W)) s1 :=
            P.step (P.step hi (Mv.set _ (by simp))) ⟨Nat.le_refl _, fun _ _ _ => rfl, fun q _ hq => by simp [hq]⟩
          have hmm : Mv N σ N' (σ1.setIfInBounds b (.row (splice cs (bsP x.es e.name * 2) [.string e.name, .slice base e.vs.length c]) 2 .W)) :=
            (hm.trans (Mv.set _ (by simp))).trans ⟨Nat.le_refl _, fun _ _ _ => rfl, fun q _ hq => by simp [hq]⟩
          have hD0' : ∀ q ∈ D0, q < (σ1.setIfInBounds b (.row (splice cs (bsP x.es e.name * 2) [.string e.name, .slice base e.vs.length c]) 2 .W)).size := by simpa using hD0
          have hxx : putLeaf x e = ⟨true, x.es.set (bsP x.es e.name) e, x.ks⟩ := by simp [putLeaf, hbs, hl]
          rw [hxx] at hok hn'
          have hsp : l = splitP (⟨true, x.es.set (bsP x.es e.name) e, x.ks⟩ : NodeT) ∧ s' = s1 := by
            simp only [Prod.mk.injEq, Except.ok.injEq] at hok
            exact ⟨hok.1.symm, hok.2.symm⟩
          obtain ⟨rfl, rfl⟩ := hsp
          obtain ⟨_, _, hcel, hxe, hxk⟩ := hn'.rel
          simp only [List.cons.injEq, true_and, and_true] at hcel
          obtain ⟨rfl, rfl⟩ := hcel
          refine Or.inl (c96 hA (x := (⟨true, x.es.set (bsP x.es e.name) e, x.ks⟩ : NodeT)) hxe hxk ?_)
          have hDD : ∀ q ∈ N' ++ D0, q < _ := lt_app (fun q hq => P.lt his' q hq) hD0' (Nat.le_refl _)
          simp only [sx, argsFr, Sq, SI.wanted, AFr.ev, AFr.evV, AFr.get, AFr.box, AFr.put, AFr.setb, AV.val, callee, evArgs, aBin, aUn, oneCell, cellsOf, Value.cells, evParts, evElems, evAll, fillP, zeros, RetK, resAll, resOf, tupleOf, bnd, intOf?, AFr.keep, RefT.cells, undef, Nat.reduceBEq, Nat.reduceAdd, Nat.reduceMul, Nat.reduceLeDiff, Nat.reduceEqDiff, reduceCtorEq, Int.reduceEq, Int.reduceLT, Int.reduceLE, Int.reduceAdd, Int.reduceSub]
          refine Cd_split (fun hb4 => ?_) (fun hb4 => ?_)
          · have hgt : 4 < sizeP (⟨true, x.es.set (bsP x.es e.name) e, x.ks⟩ : NodeT) := by simp at hb4; omega
            simp only [sx, argsFr, Sq, SI.wanted, AFr.ev, AFr.evV, AFr.get, AFr.box, AFr.put, AFr.setb, AV.val, callee, evArgs, aBin, aUn, oneCell, cellsOf, Value.cells, evParts, evElems, evAll, fillP, zeros, RetK, resAll, resOf, tupleOf, bnd, intOf?, AFr.keep, RefT.cells, undef, Nat.reduceBEq, Nat.reduceAdd, Nat.reduceMul, Nat.reduceLeDiff, Nat.reduceEqDiff, reduceCtorEq, Int.reduceEq, Int.reduceLT, Int.reduceLE, Int.reduceAdd, Int.reduceSub]
            refine Or.inl (c97 hA (x := (⟨true, x.es.set (bsP x.es e.name) e, x.ks⟩ : NodeT)) hn' hDD (fun v' σ3 hv hm3 => ?_))
            simp only [sx, argsFr, Sq, SI.wanted, AFr.ev, AFr.evV, AFr.get, AFr.box, AFr.put, AFr.setb, AV.val, callee, evArgs, aBin, aUn, oneCell, cellsOf, Value.cells, evParts, evElems, evAll, fillP, zeros, RetK, resAll, resOf, tupleOf, bnd, intOf?, AFr.keep, RefT.cells, undef, Nat.reduceBEq, Nat.reduceAdd, Nat.reduceMul, Nat.reduceLeDiff, Nat.reduceEqDiff, reduceCtorEq, Int.reduceEq, Int.reduceLT, Int.reduceLE, Int.reduceAdd, Int.reduceSub]
            exact h1 v' N' σ3 (P.step his' (hm3.any D0)) (by rw [splitP, if_pos hgt]; exact hv) (hmm.trans (hm3.any N'))
          · have hgt : ¬ 4 < sizeP (⟨true, x.es.set (bsP x.es e.name) e, x.ks⟩ : NodeT) := by simp at hb4; omega
            simp only [sx, argsFr, Sq, SI.wanted, AFr.ev, AFr.evV, AFr.get, AFr.box, AFr.put, AFr.setb, AV.val, callee, evArgs, aBin, aUn, oneCell, cellsOf, Value.cells, evParts, evElems, evAll, fillP, zeros, RetK, resAll, resOf, tupleOf, bnd, intOf?, AFr.keep, RefT.cells, undef, Nat.reduceBEq, Nat.reduceAdd, Nat.reduceMul, Nat.reduceLeDiff, Nat.reduceEqDiff, reduceCtorEq, Int.reduceEq, Int.reduceLT, Int.reduceLE, Int.reduceAdd, Int.reduceSub]
            have ho := Own.newRow (K := nodeK) (D := N' ++ D0) (e := 3) (c := 4) (xs := [(⟨true, x.es.set (bsP x.es e.name) e, x.ks⟩ : NodeT)]) rfl hDD rfl (show 1 * 56 ≤ maxN by decide) rfl (Kd.list_one hn'.rel)
            exact h1 _ N' _ (P.step his' (Mv.push _ _ _)) (by rw [splitP, if_neg hgt]; exact ho.sl) (hmm.trans (Mv.push _ _ _))
        | false =>
          simp only [sx, argsFr, Sq, SI.wanted, AFr.ev, AFr.evV, AFr.get, AFr.box, AFr.put, AFr.setb, AV.val, callee, evArgs, aBin, aUn, oneCell, cellsOf, Value.cells, evParts, evElems, evAll, fillP, zeros, RetK, resAll, resOf, tupleOf, bnd, intOf?, AFr.keep, RefT.cells, undef, Nat.reduceBEq, Nat.reduceAdd, Nat.reduceMul, Nat.reduceLeDiff, Nat.reduceEqDiff, reduceCtorEq, Int.reduceEq, Int.reduceLT, Int.reduceLE, Int.reduceAdd, Int.reduceSub]
          have sh : ∀ {X Y : List Nat} {τ : AHeap}, (∀ q ∈ Y, q ∈ X) → Mv X τ Y τ := fun {X Y τ} h => ⟨Nat.le_refl _, fun _ _ _ => rfl, fun q _ hq => h q hq⟩
          have hs1 : SlR verK (N1 ++ (N2 ++ (N' ++ D0))) σ1 (.slice base e.vs.length c) e.vs :=
            hs.step (hm.mono (fun q hq => by simp [hq]) fun q hq => by simp only [List.mem_append] at hq ⊢; grind)
          have hDN : ∀ q ∈ N1 ++ (N2 ++ (N' ++ D0)), q < σ1.size := lt_app hn.es.lt (lt_app hn.ks.lt (lt_app (fun q hq => P.lt hi q hq) hD0 (Nat.le_refl _)) (Nat.le_refl _)) (Nat.le_refl _)
          have hv := (Own.newRow (K := entK) (D := N1 ++ (N2 ++ (N' ++ D0))) (e := 2) (c := 3) (xs := [e]) rfl hDN rfl (show 1 * 40 ≤ maxN by decide) rfl (Kd.list_one ⟨_, rfl, hs1⟩)).sl
          refine Or.inl (c94 hA (hn.es.step (Mv.push _ _ _)) hv (bsP_le _ _) (by omega) (fun q hq => by have := hDN q (by simp only [List.mem_append] at hq ⊢; grind); simp; omega) (fun ve' N1' σ2 ho2 hm2 => ?_))
          obtain ⟨b7, c7, rfl⟩ := ho2.shape
          simp only [sx, argsFr, Sq, SI.wanted, AFr.ev, AFr.evV, AFr.get, AFr.box, AFr.put, AFr.setb, AV.val, callee, evArgs, aBin, aUn, oneCell, cellsOf, Value.cells, evParts, evElems, evAll, fillP, zeros, RetK, resAll, resOf, tupleOf, bnd, intOf?, AFr.keep, RefT.cells, undef, Nat.reduceBEq, Nat.reduceAdd, Nat.reduceMul, Nat.reduceLeDiff, Nat.reduceEqDiff, reduceCtorEq, Int.reduceEq, Int.reduceLT, Int.reduceLE, Int.reduceAdd, Int.reduceSub]
          have hn' : NodeO (N' ++ D0) N1' N2 σ2 (.slice b7 (x.es.take (bsP x.es e.name) ++ e :: x.es.drop (bsP x.es e.name)).length c7) (.slice b4 x.ks.length c4) (putLeaf x e) := by
            refine ⟨?_, hn.ks.step ((Mv.push _ _ _).trans (hm2.post _))⟩
            simpa [putLeaf, hbs] using ho2
          have his' : P.is D0 N' σ2 s1 := P.step (P.step (P.step (P.step hi (sh (Y := N1 ++ D0) (fun q hq => by simp only [List.mem_append] at hq ⊢; grind))) (Mv.push _ _ _)) (hm2.post D0)) (sh (fun q hq => by simp [hq]))
          have hmm : Mv N σ N' σ2 := ((hm.trans (sh (Y := N1 ++ N') (fun q hq => by simp only [List.mem_append] at hq ⊢; grind))).trans ((Mv.push _ _ _).trans (hm2.post N'))).trans (sh (fun q hq => by simp [hq]))
          have hD0' : ∀ q ∈ D0, q < σ2.size := fun q hq => by have := hD0 q hq; have := hm2.size; simp at this; omega
          have hxx : putLeaf x e = ⟨true, x.es.take (bsP x.es e.name) ++ e :: x.es.drop (bsP x.es e.name), x.ks⟩ := by simp [putLeaf, hbs, hl]
          rw [hxx] at hok hn'
          have hsp : l = splitP (⟨true, x.es.take (bsP x.es e.name) ++ e :: x.es.drop (bsP x.es e.name), x.ks⟩ : NodeT) ∧ s' = s1 := by
            simp only [Prod.mk.injEq, Except.ok.injEq] at hok
            exact ⟨hok.1.symm, hok.2.symm⟩
          obtain ⟨rfl, rfl⟩ := hsp
          obtain ⟨_, _, hcel, hxe, hxk⟩ := hn'.rel
          simp only [List.cons.injEq, true_and, and_true] at hcel
          obtain ⟨rfl, rfl⟩ := hcel
          refine Or.inl (c96 hA (x := (⟨true, x.es.take (bsP x.es e.name) ++ e :: x.es.drop (bsP x.es e.name), x.ks⟩ : NodeT)) hxe hxk ?_)
          have hDD : ∀ q ∈ N' ++ D0, q < _ := lt_app (fun q hq => P.lt his' q hq) hD0' (Nat.le_refl _)
          simp only [sx, argsFr, Sq, SI.wanted, AFr.ev, AFr.evV, AFr.get, AFr.box, AFr.put, AFr.setb, AV.val, callee, evArgs, aBin, aUn, oneCell, cellsOf, Value.cells, evParts, evElems, evAll, fillP, zeros, RetK, resAll, resOf, tupleOf, bnd, intOf?, AFr.keep, RefT.cells, undef, Nat.reduceBEq, Nat.reduceAdd, Nat.reduceMul, Nat.reduceLeDiff, Nat.reduceEqDiff, reduceCtorEq, Int.reduceEq, Int.reduceLT, Int.reduceLE, Int.reduceAdd, Int.reduceSub]
          refine Cd_split (fun hb4 => ?_) (fun hb4 => ?_)
          · have hgt : 4 < sizeP (⟨true, x.es.take (bsP x.es e.name) ++ e :: x.es.drop (bsP x.es e.name), x.ks⟩ : NodeT) := by simp at hb4; omega
            simp only [sx, argsFr, Sq, SI.wanted, AFr.ev, AFr.evV, AFr.get, AFr.box, AFr.put, AFr.setb, AV.val, callee, evArgs, aBin, aUn, oneCell, cellsOf, Value.cells, evParts, evElems, evAll, fillP, zeros, RetK, resAll, resOf, tupleOf, bnd, intOf?, AFr.keep, RefT.cells, undef, Nat.reduceBEq, Nat.reduceAdd, Nat.reduceMul, Nat.reduceLeDiff, Nat.reduceEqDiff, reduceCtorEq, Int.reduceEq, Int.reduceLT, Int.reduceLE, Int.reduceAdd, Int.reduceSub]
            refine Or.inl (c97 hA (x := (⟨true, x.es.take (bsP x.es e.name) ++ e :: x.es.drop (bsP x.es e.name), x.ks⟩ : NodeT)) hn' hDD (fun v' σ3 hv hm3 => ?_))
            simp only [sx, argsFr, Sq, SI.wanted, AFr.ev, AFr.evV, AFr.get, AFr.box, AFr.put, AFr.setb, AV.val, callee, evArgs, aBin, aUn, oneCell, cellsOf, Value.cells, evParts, evElems, evAll, fillP, zeros, RetK, resAll, resOf, tupleOf, bnd, intOf?, AFr.keep, RefT.cells, undef, Nat.reduceBEq, Nat.reduceAdd, Nat.reduceMul, Nat.reduceLeDiff, Nat.reduceEqDiff, reduceCtorEq, Int.reduceEq, Int.reduceLT, Int.reduceLE, Int.reduceAdd, Int.reduceSub]
            exact h1 v' N' σ3 (P.step his' (hm3.any D0)) (by rw [splitP, if_pos hgt]; exact hv) (hmm.trans (hm3.any N'))
          · have hgt : ¬ 4 < sizeP (⟨true, x.es.take (bsP x.es e.name) ++ e :: x.es.drop (bsP x.es e.name), x.ks⟩ : NodeT) := by simp at hb4; omega
            simp only [sx, argsFr, Sq, SI.wanted, AFr.ev, AFr.evV, AFr.get, AFr.box, AFr.put, AFr.setb, AV.val, callee, evArgs, aBin, aUn, oneCell, cellsOf, Value.cells, evParts, evElems, evAll, fillP, zeros, RetK, resAll, resOf, tupleOf, bnd, intOf?, AFr.keep, RefT.cells, undef, Nat.reduceBEq, Nat.reduceAdd, Nat.reduceMul, Nat.reduceLeDiff, Nat.reduceEqDiff, reduceCtorEq, Int.reduceEq, Int.reduceLT, Int.reduceLE, Int.reduceAdd, Int.reduceSub]
            have ho := Own.newRow (K := nodeK) (D := N' ++ D0) (e := 3) (c := 4) (xs := [(⟨true, x.es.take (bsP x.es e.name) ++ e :: x.es.drop (bsP x.es e.name), x.ks⟩ : NodeT)]) rfl hDD rfl (show 1 * 56 ≤ maxN by decide) rfl (Kd.list_one hn'.rel)
            exact h1 _ N' _ (P.step his' (Mv.push _ _ _)) (by rw [splitP, if_neg hgt]; exact ho.sl) (hmm.trans (Mv.push _ _ _))
      | false =>
        simp only [sx, argsFr, Sq, SI.wanted, AFr.ev, AFr.evV, AFr.get, AFr.box, AFr.put, AFr.setb, AV.val, callee, evArgs, aBin, aUn, oneCell, cellsOf, Value.cells, evParts, evElems, evAll, fillP, zeros, RetK, resAll, resOf, tupleOf, bnd, intOf?, AFr.keep, RefT.cells, undef, Nat.reduceBEq, Nat.reduceAdd, Nat.reduceMul, Nat.reduceLeDiff, Nat.reduceEqDiff, reduceCtorEq, Int.reduceEq, Int.reduceLT, Int.reduceLE, Int.reduceAdd, Int.reduceSub]
        rw [if_neg (by simp [hl])] at hok
        cases hkx : x.ks[belowP x.ks e.name]? with
        | none => rw [hkx] at hok; simp at hok
        | some kid =>
          rw [hkx] at hok
          simp only at hok
          have hlt : belowP x.ks e.name < x.ks.length := by
            rcases Nat.lt_or_ge (belowP x.ks e.name) x.ks.length with h | h
            · exact h
            · rw [List.getElem?_eq_none h] at hkx; simp at hkx
          have hne : x.ks ≠ [] := fun h => by rw [h] at hlt; simp at hlt
          obtain ⟨b, off, cs, e5, m, cells, rfl, hb, rfl, _, hcN⟩ := hwk.atE (j := 5) rfl hkx
          have hc4 := hcN 1 4 (by decide)
          simp only [List.drop_succ_cons, List.drop_zero, List.take_succ_cons, List.take_zero, RefT.cells] at hc4
          have hwd : IntKind.i64.wrap (((8 - u : Nat) : Int) + 1) = ((8 - u + 1 : Nat) : Int) := wrap_up (by omega)
          refine Or.inl (c84 hA (x := ⟨false, x.es, x.ks⟩) hwe hwk hne ?_)
          simp only [sx, argsFr, Sq, SI.wanted, AFr.ev, AFr.evV, AFr.get, AFr.box, AFr.put, AFr.setb, AV.val, callee, evArgs, aBin, aUn, oneCell, cellsOf, Value.cells, evParts, evElems, evAll, fillP, zeros, RetK, resAll, resOf, tupleOf, bnd, intOf?, AFr.keep, RefT.cells, undef, Nat.reduceBEq, Nat.reduceAdd, Nat.reduceMul, Nat.reduceLeDiff, Nat.reduceEqDiff, reduceCtorEq, Int.reduceEq, Int.reduceLT, Int.reduceLE, Int.reduceAdd, Int.reduceSub, hlt, hb, hc4, hwd]
          have hD0 : ∀ q ∈ D0, q < σ1.size := fun q hq => Nat.lt_of_lt_of_le (hD q hq) hm.size
          have hD1 : ∀ q ∈ N1 ++ N2 ++ D0, q < σ1.size := lt_app (lt_app hn.es.lt hn.ks.lt (Nat.le_refl _)) hD0 (Nat.le_refl _)
          have hs1 : SlR verK (N' ++ (N1 ++ N2 ++ D0)) σ1 (.slice base e.vs.length c) e.vs :=
            hs.step (hm.mono (fun q hq => by simp [hq]) fun q hq => by simp only [List.mem_append] at hq ⊢; grind)
          cases hpu : putP P e u s1 kid.ref with
          | mk o s2 =>
            rw [hpu] at hok
            cases o with
            | error e' => simp at hok
            | ok l2 =>
              simp only at hok
              refine Or.inl (ihu (by omega) hi hs1 hD1 hpu (fun v2 N2' σ2 hi2 hv2 hm2 => ?_))
              obtain ⟨b8, c8, rfl⟩ := hv2.shape
              simp only [sx, argsFr, Sq, SI.wanted, AFr.ev, AFr.evV, AFr.get, AFr.box, AFr.put, AFr.setb, AV.val, callee, evArgs, aBin, aUn, oneCell, cellsOf, Value.cells, evParts, evElems, evAll, fillP, zeros, RetK, resAll, resOf, tupleOf, bnd, intOf?, AFr.keep, RefT.cells, undef, Nat.reduceBEq, Nat.reduceAdd, Nat.reduceMul, Nat.reduceLeDiff, Nat.reduceEqDiff, reduceCtorEq, Int.reduceEq, Int.reduceLT, Int.reduceLE, Int.reduceAdd, Int.reduceSub]
              have hl2 := putP_len P hpu
              refine ⟨rfl, ?_⟩
              refine Or.inl (c57 hA P hi2 hv2 (by omega) (fun q hq => Nat.lt_of_lt_of_le (hD1 q hq) hm2.size) (fun e3 s3 N3 σ3 hla he3 hi3 hm3 => ?_) (fun kids s3 vk3 Nk N3 σ3 hla hi3 ho3 hm3 => ?_))
              · rw [hla] at hok
                simp at hok
              · rw [hla] at hok
                simp only at hok
                obtain ⟨b9, c9, rfl⟩ := ho3.shape
                simp only [sx, argsFr, Sq, SI.wanted, AFr.ev, AFr.evV, AFr.get, AFr.box, AFr.put, AFr.setb, AV.val, callee, evArgs, aBin, aUn, oneCell, cellsOf, Value.cells, evParts, evElems, evAll, fillP, zeros, RetK, resAll, resOf, tupleOf, bnd, intOf?, AFr.keep, RefT.cells, undef, Nat.reduceBEq, Nat.reduceAdd, Nat.reduceMul, Nat.reduceLeDiff, Nat.reduceEqDiff, reduceCtorEq, Int.reduceEq, Int.reduceLT, Int.reduceLE, Int.reduceAdd, Int.reduceSub]
                have hkl := layA_len P _ _ _ _ _ hla
                simp only [List.length_nil, Nat.zero_add] at hkl
                have hwb : IntKind.i64.wrap (((belowP x.ks e.name : Nat) : Int) + 1) = ((belowP x.ks e.name + 1 : Nat) : Int) := wrap_up (by omega)
                have hmv : Mv (N' ++ D0) σ1 (N3 ++ D0) σ3 := (hm2.post D0).trans (hm3.mono (fun q hq => by simp [hq]) fun q hq => by simp only [List.mem_append] at hq ⊢; grind)
                have sh : ∀ {X Y : List Nat} {τ : AHeap}, (∀ q ∈ Y, q ∈ X) → Mv X τ Y τ := fun {X Y τ} h => ⟨Nat.le_refl _, fun _ _ _ => rfl, fun q _ hq => h q hq⟩
                have hks := hn.ks.step (hmv.pre N1)
                have hsz3 : σ1.size ≤ σ3.size := Nat.le_trans hm2.size hm3.size
                simp only [hwb]
                refine Or.inl (c95 hA hks (ho3.sl.step (sh (fun q hq => by simp only [List.mem_append] at hq ⊢; grind))) (by omega) (by omega) (by omega) (by have := putP_pos P hpu; omega) (by omega)
                  (lt_app (fun q hq => Nat.lt_of_lt_of_le (hn.es.lt q hq) hsz3) (lt_app (fun q hq => P.lt hi3 q hq) (fun q hq => Nat.lt_of_lt_of_le (hD0 q hq) hsz3) (Nat.le_refl _)) (Nat.le_refl _)) (fun vk4 N2'' σ4 ho4 hm4 => ?_))
                rw [List.append_assoc] at ho4
                obtain ⟨b10, c10, rfl⟩ := ho4.shape
                simp only [sx, argsFr, Sq, SI.wanted, AFr.ev, AFr.evV, AFr.get, AFr.box, AFr.put, AFr.setb, AV.val, callee, evArgs, aBin, aUn, oneCell, cellsOf, Value.cells, evParts, evElems, evAll, fillP, zeros, RetK, resAll, resOf, tupleOf, bnd, intOf?, AFr.keep, RefT.cells, undef, Nat.reduceBEq, Nat.reduceAdd, Nat.reduceMul, Nat.reduceLeDiff, Nat.reduceEqDiff, reduceCtorEq, Int.reduceEq, Int.reduceLT, Int.reduceLE, Int.reduceAdd, Int.reduceSub]
                have hn' : NodeO (N3 ++ D0) N1 N2'' σ4 (.slice b3 x.es.length c3) (.slice b10 (x.ks.take (belowP x.ks e.name) ++ (kids ++ x.ks.drop (belowP x.ks e.name + 1))).length c10) ⟨false, x.es, x.ks.take (belowP x.ks e.name) ++ (kids ++ x.ks.drop (belowP x.ks e.name + 1))⟩ :=
                  ⟨hn.es.step ((hmv.pre N2).trans (hm4.post (N3 ++ D0))), ho4⟩
                have his' : P.is D0 N3 σ4 s3 := P.step (P.step (P.step hi3 (sh (Y := N2 ++ D0) (fun q hq => by simp only [List.mem_append] at hq ⊢; grind))) (hm4.post D0)) (sh (fun q hq => by simp [hq]))
                have hmm : Mv N σ N3 σ4 := (((hm.trans ((hm2.pre (N1 ++ N2)).trans (sh (Y := N2 ++ N2') (fun q hq => by simp only [List.mem_append] at hq ⊢; grind)))).trans ((hm3.pre N2).trans (sh (Y := N2 ++ N3) (fun q hq => by simp only [List.mem_append] at hq ⊢; grind)))).trans (hm4.post N3)).trans (sh (fun q hq => by simp [hq]))
                have hD0' : ∀ q ∈ D0, q < σ4.size := fun q hq => Nat.lt_of_lt_of_le (hD0 q hq) (Nat.le_trans hsz3 hm4.size)
                simp only [hl, List.append_assoc] at hok
                have hsp : l = splitP (⟨false, x.es, x.ks.take (belowP x.ks e.name) ++ (kids ++ x.ks.drop (belowP x.ks e.name + 1))⟩ : NodeT) ∧ s' = s3 := by
                  simp only [Prod.mk.injEq, Except.ok.injEq] at hok
                  exact ⟨hok.1.symm, hok.2.symm⟩
                obtain ⟨rfl, rfl⟩ := hsp
                obtain ⟨_, _, hcel, hxe, hxk⟩ := hn'.rel
                simp only [List.cons.injEq, true_and, and_true] at hcel
                obtain ⟨rfl, rfl⟩ := hcel
                refine Or.inl (c96 hA (x := (⟨false, x.es, x.ks.take (belowP x.ks e.name) ++ (kids ++ x.ks.drop (belowP x.ks e.name + 1))⟩ : NodeT)) hxe hxk ?_)
                have hDD : ∀ q ∈ N3 ++ D0, q < _ := lt_app (fun q hq => P.lt his' q hq) hD0' (Nat.le_refl _)
                simp only [sx, argsFr, Sq, SI.wanted, AFr.ev, AFr.evV, AFr.get, AFr.box, AFr.put, AFr.setb, AV.val, callee, evArgs, aBin, aUn, oneCell, cellsOf, Value.cells, evParts, evElems, evAll, fillP, zeros, RetK, resAll, resOf, tupleOf, bnd, intOf?, AFr.keep, RefT.cells, undef, Nat.reduceBEq, Nat.reduceAdd, Nat.reduceMul, Nat.reduceLeDiff, Nat.reduceEqDiff, reduceCtorEq, Int.reduceEq, Int.reduceLT, Int.reduceLE, Int.reduceAdd, Int.reduceSub]
                refine Cd_split (fun hb4 => ?_) (fun hb4 => ?_)
                · have hgt : 4 < sizeP (⟨false, x.es, x.ks.take (belowP x.ks e.name) ++ (kids ++ x.ks.drop (belowP x.ks e.name + 1))⟩ : NodeT) := by simp at hb4; omega
                  simp only [sx, argsFr, Sq, SI.wanted, AFr.ev, AFr.evV, AFr.get, AFr.box, AFr.put, AFr.setb, AV.val, callee, evArgs, aBin, aUn, oneCell, cellsOf, Value.cells, evParts, evElems, evAll, fillP, zeros, RetK, resAll, resOf, tupleOf, bnd, intOf?, AFr.keep, RefT.cells, undef, Nat.reduceBEq, Nat.reduceAdd, Nat.reduceMul, Nat.reduceLeDiff, Nat.reduceEqDiff, reduceCtorEq, Int.reduceEq, Int.reduceLT, Int.reduceLE, Int.reduceAdd, Int.reduceSub]
                  refine Or.inl (c97 hA (x := (⟨false, x.es, x.ks.take (belowP x.ks e.name) ++ (kids ++ x.ks.drop (belowP x.ks e.name + 1))⟩ : NodeT)) hn' hDD (fun v' σ3 hv hm3 => ?_))
                  simp only [sx, argsFr, Sq, SI.wanted, AFr.ev, AFr.evV, AFr.get, AFr.box, AFr.put, AFr.setb, AV.val, callee, evArgs, aBin, aUn, oneCell, cellsOf, Value.cells, evParts, evElems, evAll, fillP, zeros, RetK, resAll, resOf, tupleOf, bnd, intOf?, AFr.keep, RefT.cells, undef, Nat.reduceBEq, Nat.reduceAdd, Nat.reduceMul, Nat.reduceLeDiff, Nat.reduceEqDiff, reduceCtorEq, Int.reduceEq, Int.reduceLT, Int.reduceLE, Int.reduceAdd, Int.reduceSub]
                  exact h1 v' N3 σ3 (P.step his' (hm3.any D0)) (by rw [splitP, if_pos hgt]; exact hv) (hmm.trans (hm3.any N3))
                · have hgt : ¬ 4 < sizeP (⟨false, x.es, x.ks.take (belowP x.ks e.name) ++ (kids ++ x.ks.drop (belowP x.ks e.name + 1))⟩ : NodeT) := by simp at hb4; omega
                  simp only [sx, argsFr, Sq, SI.wanted, AFr.ev, AFr.evV, AFr.get, AFr.box, AFr.put, AFr.setb, AV.val, callee, evArgs, aBin, aUn, oneCell, cellsOf, Value.cells, evParts, evElems, evAll, fillP, zeros, RetK, resAll, resOf, tupleOf, bnd, intOf?, AFr.keep, RefT.cells, undef, Nat.reduceBEq, Nat.reduceAdd, Nat.reduceMul, Nat.reduceLeDiff, Nat.reduceEqDiff, reduceCtorEq, Int.reduceEq, Int.reduceLT, Int.reduceLE, Int.reduceAdd, Int.reduceSub]
                  have ho := Own.newRow (K := nodeK) (D := N3 ++ D0) (e := 3) (c := 4) (xs := [(⟨false, x.es, x.ks.take (belowP x.ks e.name) ++ (kids ++ x.ks.drop (belowP x.ks e.name + 1))⟩ : NodeT)]) rfl hDD rfl (show 1 * 56 ≤ maxN by decide) rfl (Kd.list_one hn'.rel)
                  exact h1 _ N3 _ (P.step his' (Mv.push _ _ _)) (by rw [splitP, if_neg hgt]; exact ho.sl) (hmm.trans (Mv.push _ _ _))
end
end Go.Proofs.Ytbldkkabkijpgaa
