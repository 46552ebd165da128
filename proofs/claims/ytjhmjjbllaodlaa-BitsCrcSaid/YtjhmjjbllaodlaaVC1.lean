/- The code of the functions, compiled. -/
import Derived.Test.YtjhmjjbllaodlaaVitX
import Derived.Test.YtjhmjjbllaodlaaChecked
import Derived.KernelRfl
namespace Go.Vit
open Go.Proofs
/-! 3: vitrine/vitrinelaw04.LzTokens -/
def r3_0 : List RegE := [
  ⟨0, ⟨(some 2), none, .mov (.const (.bool false))⟩, []⟩]
def r3_1 : List RegE := [
  ⟨0, ⟨(some 3), none, .mov (.tmp 0)⟩, []⟩,
  ⟨1, ⟨(some 4), none, .len true (.tmp 3)⟩, []⟩,
  ⟨2, ⟨(some 5), none, .bin .gtr .basic (.tmp 4) (.const (.int .i64 20000))⟩, []⟩,
  ⟨3, ⟨(some 6), none, .mov (.tmp 5)⟩, []⟩,
  ⟨4, ⟨(some 7), (some (6, false)), .mov (.tmp 0)⟩, []⟩,
  ⟨5, ⟨(some 8), (some (6, false)), .call 15 [.tmp 7]⟩, []⟩,
  ⟨6, ⟨(some 9), (some (6, false)), .mov (.tmp 0)⟩, []⟩,
  ⟨7, ⟨(some 10), (some (6, false)), .call 16 [.tmp 9]⟩, []⟩,
  ⟨8, ⟨(some 11), (some (6, false)), .call 14 [.tmp 8, .tmp 10]⟩, []⟩,
  ⟨9, ⟨(some 12), none, .pick (.tmp 6) (.const (.bool true)) (.tmp 11)⟩, []⟩,
  ⟨10, ⟨(some 13), none, .mov (.tmp 12)⟩, []⟩,
  ⟨11, ⟨(some 14), (some (13, true)), .call 17 []⟩, []⟩,
  ⟨12, ⟨(some 15), none, .pick (.tmp 13) (.tmp 14) (.const (.bool false))⟩, []⟩,
  ⟨13, ⟨(some 2), none, .mov (.tmp 15)⟩, []⟩]
def k3 : List (Option (List Nat)) := [none, some [2]]
def c3 : AFunc := ⟨16, .seq (.region 1 r3_0) (.seq (.seq (.region 14 r3_1) (.forget [2])) .ret), [.tmp 2]⟩
theorem e3 : compFuncA Try.prog 3 k3 = some c3 := by kernel_rfl
/-! 4: vitrine/vitrinelaw04.LzExpands -/
def r4_0 : List RegE := [
  ⟨0, ⟨(some 2), none, .mov (.const (.bool false))⟩, []⟩]
def r4_1 : List RegE := [
  ⟨0, ⟨(some 8), none, .mov (.tmp 0)⟩, []⟩,
  ⟨1, ⟨(some 9), none, .len false (.tmp 8)⟩, []⟩,
  ⟨2, ⟨(some 10), none, .bin .gtr .basic (.tmp 9) (.const (.int .i64 2000))⟩, []⟩]
def r4_2 : List RegE := [
  ⟨0, ⟨(some 11), none, .call 17 []⟩, []⟩,
  ⟨1, ⟨(some 2), none, .mov (.tmp 11)⟩, []⟩]
def r4_3 : List RegE := [
  ⟨0, ⟨(some 12), none, .newSlice 0 [] []⟩, []⟩,
  ⟨1, ⟨(some 13), none, .mov (.tmp 0)⟩, []⟩,
  ⟨2, ⟨(some 14), none, .append 3 24 (.tmp 12) (.tmp 13)⟩, []⟩,
  ⟨3, ⟨(some 3), none, .mov (.tmp 14)⟩, []⟩]
def r4_4 : List RegE := [
  ⟨0, ⟨(some 16), none, .mov (.tmp 3)⟩, []⟩,
  ⟨1, ⟨(some 17), none, .call 18 [.tmp 16]⟩, []⟩,
  ⟨2, ⟨(some 15), none, .mov (.tmp 17)⟩, []⟩,
  ⟨3, ⟨(some 18), none, .extract (.tmp 15) 0⟩, []⟩,
  ⟨4, ⟨(some 19), none, .extract (.tmp 15) 1⟩, []⟩,
  ⟨5, ⟨(some 4), none, .mov (.tmp 18)⟩, []⟩,
  ⟨6, ⟨(some 5), none, .mov (.tmp 19)⟩, []⟩]
def r4_5 : List RegE := [
  ⟨0, ⟨(some 21), none, .mov (.tmp 0)⟩, []⟩,
  ⟨1, ⟨(some 22), none, .call 19 [.tmp 21]⟩, []⟩,
  ⟨2, ⟨(some 20), none, .mov (.tmp 22)⟩, []⟩,
  ⟨3, ⟨(some 23), none, .extract (.tmp 20) 0⟩, []⟩,
  ⟨4, ⟨(some 24), none, .extract (.tmp 20) 1⟩, []⟩,
  ⟨5, ⟨(some 6), none, .mov (.tmp 23)⟩, []⟩,
  ⟨6, ⟨(some 7), none, .mov (.tmp 24)⟩, []⟩]
def r4_6 : List RegE := [
  ⟨0, ⟨(some 25), none, .mov (.tmp 4)⟩, []⟩,
  ⟨1, ⟨(some 26), none, .mov (.tmp 6)⟩, []⟩,
  ⟨2, ⟨(some 27), none, .bin .eql .basic (.tmp 25) (.tmp 26)⟩, []⟩,
  ⟨3, ⟨(some 28), none, .mov (.tmp 27)⟩, []⟩,
  ⟨4, ⟨(some 29), (some (28, true)), .mov (.tmp 5)⟩, []⟩,
  ⟨5, ⟨(some 30), (some (28, true)), .mov (.tmp 7)⟩, []⟩,
  ⟨6, ⟨(some 31), (some (28, true)), .bin .eql .basic (.tmp 29) (.tmp 30)⟩, []⟩,
  ⟨7, ⟨(some 32), none, .pick (.tmp 28) (.tmp 31) (.const (.bool false))⟩, []⟩,
  ⟨8, ⟨(some 33), none, .mov (.tmp 32)⟩, []⟩,
  ⟨9, ⟨(some 34), (some (33, true)), .mov (.tmp 3)⟩, []⟩,
  ⟨10, ⟨(some 35), (some (33, true)), .mov (.tmp 0)⟩, []⟩,
  ⟨11, ⟨(some 36), (some (33, true)), .call 14 [.tmp 34, .tmp 35]⟩, []⟩,
  ⟨12, ⟨(some 37), none, .pick (.tmp 33) (.tmp 36) (.const (.bool false))⟩, []⟩,
  ⟨13, ⟨(some 38), none, .mov (.tmp 37)⟩, []⟩,
  ⟨14, ⟨(some 39), (some (38, true)), .call 17 []⟩, []⟩,
  ⟨15, ⟨(some 40), none, .pick (.tmp 38) (.tmp 39) (.const (.bool false))⟩, []⟩,
  ⟨16, ⟨(some 2), none, .mov (.tmp 40)⟩, []⟩]
def k4 : List (Option (List Nat)) := [none, none, none, none, none, some [0, 3, 4, 5], some [0, 3, 4, 5, 6, 7], some [2]]
def c4 : AFunc := ⟨41, .seq (.region 1 r4_0) (.seq (.seq (.region 3 r4_1) (.cond (.tmp 10) (.seq (.region 2 r4_2) .ret) .skip)) (.seq (.region 4 r4_3) (.seq (.seq (.region 7 r4_4) (.forget [0, 3, 4, 5])) (.seq (.seq (.region 7 r4_5) (.forget [0, 3, 4, 5, 6, 7])) (.seq (.seq (.region 17 r4_6) (.forget [2])) .ret))))), [.tmp 2]⟩
theorem e4 : compFuncA Try.prog 4 k4 = some c4 := by kernel_rfl
/-! 5: vitrine/vitrinelaw04.LzBack -/
def r5_0 : List RegE := [
  ⟨0, ⟨(some 2), none, .mov (.const (.bool false))⟩, []⟩]
def r5_1 : List RegE := [
  ⟨0, ⟨(some 8), none, .mov (.tmp 0)⟩, []⟩,
  ⟨1, ⟨(some 9), none, .len true (.tmp 8)⟩, []⟩,
  ⟨2, ⟨(some 10), none, .bin .gtr .basic (.tmp 9) (.const (.int .i64 20000))⟩, []⟩]
def r5_2 : List RegE := [
  ⟨0, ⟨(some 11), none, .call 17 []⟩, []⟩,
  ⟨1, ⟨(some 2), none, .mov (.tmp 11)⟩, []⟩]
def r5_3 : List RegE := [
  ⟨0, ⟨(some 12), none, .mov (.tmp 0)⟩, []⟩,
  ⟨1, ⟨(some 13), none, .call 15 [.tmp 12]⟩, []⟩,
  ⟨2, ⟨(some 3), none, .mov (.tmp 13)⟩, []⟩]
def r5_4 : List RegE := [
  ⟨0, ⟨(some 15), none, .mov (.tmp 3)⟩, []⟩,
  ⟨1, ⟨(some 16), none, .call 18 [.tmp 15]⟩, []⟩,
  ⟨2, ⟨(some 14), none, .mov (.tmp 16)⟩, []⟩,
  ⟨3, ⟨(some 17), none, .extract (.tmp 14) 0⟩, []⟩,
  ⟨4, ⟨(some 18), none, .extract (.tmp 14) 1⟩, []⟩,
  ⟨5, ⟨(some 4), none, .mov (.tmp 17)⟩, []⟩,
  ⟨6, ⟨(some 5), none, .mov (.tmp 18)⟩, []⟩]
def r5_5 : List RegE := [
  ⟨0, ⟨(some 6), none, .mov (.const (.int .i64 0))⟩, []⟩]
def r5_6 : List RegE := [
  ⟨0, ⟨(some 7), none, .mov (.const (.int .i64 0))⟩, []⟩]
def r5_7 : List RegE := [
  ⟨0, ⟨(some 19), none, .mov (.tmp 7)⟩, []⟩,
  ⟨1, ⟨(some 20), none, .mov (.tmp 3)⟩, []⟩,
  ⟨2, ⟨(some 21), none, .len false (.tmp 20)⟩, []⟩,
  ⟨3, ⟨(some 22), none, .bin .lss .basic (.tmp 19) (.tmp 21)⟩, []⟩]
def r5_8 : List RegE := [
  ⟨0, ⟨(some 25), none, .mov (.tmp 3)⟩, []⟩,
  ⟨1, ⟨(some 26), none, .mov (.tmp 7)⟩, []⟩,
  ⟨2, ⟨(some 27), none, .iaddrS 3 (.tmp 25) (.tmp 26)⟩, []⟩,
  ⟨3, ⟨(some 28), none, .load (some 3) (.tmp 27)⟩, []⟩,
  ⟨4, ⟨(some 29), none, .call 20 [.tmp 28]⟩, []⟩,
  ⟨5, ⟨(some 30), none, .un .not (.tmp 29)⟩, []⟩,
  ⟨6, ⟨(some 31), none, .mov (.tmp 30)⟩, []⟩,
  ⟨7, ⟨(some 32), (some (31, false)), .mov (.tmp 3)⟩, []⟩,
  ⟨8, ⟨(some 33), (some (31, false)), .mov (.tmp 7)⟩, []⟩,
  ⟨9, ⟨(some 34), (some (31, false)), .iaddrS 3 (.tmp 32) (.tmp 33)⟩, []⟩,
  ⟨10, ⟨(some 35), (some (31, false)), .faddr 2 (.tmp 34)⟩, []⟩,
  ⟨11, ⟨(some 36), (some (31, false)), .load none (.tmp 35)⟩, []⟩,
  ⟨12, ⟨(some 37), (some (31, false)), .bin .gtr .basic (.tmp 36) (.const (.int .i64 512))⟩, []⟩,
  ⟨13, ⟨(some 38), none, .pick (.tmp 31) (.const (.bool true)) (.tmp 37)⟩, []⟩]
def r5_9 : List RegE := [
  ⟨0, ⟨(some 2), none, .mov (.const (.bool false))⟩, []⟩]
def r5_10 : List RegE := [
  ⟨0, ⟨(some 39), none, .mov (.tmp 6)⟩, []⟩,
  ⟨1, ⟨(some 40), none, .mov (.tmp 3)⟩, []⟩,
  ⟨2, ⟨(some 41), none, .mov (.tmp 7)⟩, []⟩,
  ⟨3, ⟨(some 42), none, .iaddrS 3 (.tmp 40) (.tmp 41)⟩, []⟩,
  ⟨4, ⟨(some 43), none, .faddr 1 (.tmp 42)⟩, []⟩,
  ⟨5, ⟨(some 44), none, .load none (.tmp 43)⟩, []⟩,
  ⟨6, ⟨(some 45), none, .minmax true (.tmp 44) [.const (.int .i64 1)]⟩, []⟩,
  ⟨7, ⟨(some 46), none, .bin .add .basic (.tmp 39) (.tmp 45)⟩, []⟩,
  ⟨8, ⟨(some 6), none, .mov (.tmp 46)⟩, []⟩]
def r5_11 : List RegE := [
  ⟨0, ⟨(some 23), none, .mov (.tmp 7)⟩, []⟩,
  ⟨1, ⟨(some 24), none, .bin .add .basic (.tmp 23) (.const (.int .i64 1))⟩, []⟩,
  ⟨2, ⟨(some 7), none, .mov (.tmp 24)⟩, []⟩]
def l5_12 : ACode := .seq (.seq (.seq (.region 4 r5_7) (.cond (.tmp 22) .skip (.exit 0))) (.seq (.seq (.block 1 (.seq (.seq (.seq (.region 14 r5_8) (.forget [0, 3, 4, 5, 6, 7, 38])) (.cond (.tmp 38) (.seq (.region 1 r5_9) .ret) .skip)) (.seq (.region 9 r5_10) (.forget [0, 3, 4, 5, 6, 7])))) (.forget [0, 3, 4, 5, 6, 7])) (.region 3 r5_11))) (.forget [0, 3, 4, 5, 6, 7])
def r5_13 : List RegE := [
  ⟨0, ⟨(some 47), none, .mov (.tmp 5)⟩, []⟩,
  ⟨1, ⟨(some 48), none, .bin .eql .basic (.tmp 47) (.const (.int .i64 0))⟩, []⟩,
  ⟨2, ⟨(some 49), none, .mov (.tmp 48)⟩, []⟩,
  ⟨3, ⟨(some 50), (some (49, true)), .mov (.tmp 4)⟩, []⟩,
  ⟨4, ⟨(some 51), (some (49, true)), .mov (.tmp 0)⟩, []⟩,
  ⟨5, ⟨(some 52), (some (49, true)), .bin .eql .basic (.tmp 50) (.tmp 51)⟩, []⟩,
  ⟨6, ⟨(some 53), none, .pick (.tmp 49) (.tmp 52) (.const (.bool false))⟩, []⟩,
  ⟨7, ⟨(some 54), none, .mov (.tmp 53)⟩, []⟩,
  ⟨8, ⟨(some 55), (some (54, true)), .mov (.tmp 3)⟩, []⟩,
  ⟨9, ⟨(some 56), (some (54, true)), .len false (.tmp 55)⟩, []⟩,
  ⟨10, ⟨(some 57), (some (54, true)), .mov (.tmp 0)⟩, []⟩,
  ⟨11, ⟨(some 58), (some (54, true)), .len true (.tmp 57)⟩, []⟩,
  ⟨12, ⟨(some 59), (some (54, true)), .bin .leq .basic (.tmp 56) (.tmp 58)⟩, []⟩,
  ⟨13, ⟨(some 60), none, .pick (.tmp 54) (.tmp 59) (.const (.bool false))⟩, []⟩,
  ⟨14, ⟨(some 61), none, .mov (.tmp 60)⟩, []⟩,
  ⟨15, ⟨(some 62), (some (61, true)), .mov (.tmp 6)⟩, []⟩,
  ⟨16, ⟨(some 63), (some (61, true)), .mov (.tmp 0)⟩, []⟩,
  ⟨17, ⟨(some 64), (some (61, true)), .len true (.tmp 63)⟩, []⟩,
  ⟨18, ⟨(some 65), (some (61, true)), .bin .eql .basic (.tmp 62) (.tmp 64)⟩, []⟩,
  ⟨19, ⟨(some 66), none, .pick (.tmp 61) (.tmp 65) (.const (.bool false))⟩, []⟩,
  ⟨20, ⟨(some 67), none, .mov (.tmp 66)⟩, []⟩,
  ⟨21, ⟨(some 68), (some (67, true)), .call 17 []⟩, []⟩,
  ⟨22, ⟨(some 69), none, .pick (.tmp 67) (.tmp 68) (.const (.bool false))⟩, []⟩,
  ⟨23, ⟨(some 2), none, .mov (.tmp 69)⟩, []⟩]
def k5 : List (Option (List Nat)) := [none, none, none, none, none, some [0, 3, 4, 5], none, none, some [0, 3, 4, 5, 6], some [0, 3, 4, 5, 6, 7], none, none, some [0, 3, 4, 5, 6, 7], some [0, 3, 4, 5, 6, 7, 38], none, none, some [0, 3, 4, 5, 6, 7], none, some [2]]
def c5 : AFunc := ⟨70, .seq (.region 1 r5_0) (.seq (.seq (.region 3 r5_1) (.cond (.tmp 10) (.seq (.region 2 r5_2) .ret) .skip)) (.seq (.region 3 r5_3) (.seq (.seq (.region 7 r5_4) (.forget [0, 3, 4, 5])) (.seq (.region 1 r5_5) (.seq (.seq (.region 1 r5_6) (.seq (.block 0 (.seq (.forget [0, 3, 4, 5, 6, 7]) (.loop l5_12))) (.forget [0, 3, 4, 5, 6]))) (.seq (.seq (.region 24 r5_13) (.forget [2])) .ret)))))), [.tmp 2]⟩
theorem e5 : compFuncA Try.prog 5 k5 = some c5 := by kernel_rfl
/-! 6: vitrine/vitrinelaw04.LzLong -/
def r6_0 : List RegE := [
  ⟨0, ⟨(some 4), none, .mov (.const (.bool false))⟩, []⟩]
def r6_1 : List RegE := [
  ⟨0, ⟨(some 8), none, .mov (.tmp 0)⟩, []⟩,
  ⟨1, ⟨(some 9), none, .len true (.tmp 8)⟩, []⟩,
  ⟨2, ⟨(some 10), none, .bin .lss .basic (.tmp 9) (.const (.int .i64 1))⟩, []⟩,
  ⟨3, ⟨(some 11), none, .mov (.tmp 10)⟩, []⟩,
  ⟨4, ⟨(some 12), (some (11, false)), .mov (.tmp 0)⟩, []⟩,
  ⟨5, ⟨(some 13), (some (11, false)), .len true (.tmp 12)⟩, []⟩,
  ⟨6, ⟨(some 14), (some (11, false)), .bin .gtr .basic (.tmp 13) (.const (.int .i64 200))⟩, []⟩,
  ⟨7, ⟨(some 15), none, .pick (.tmp 11) (.const (.bool true)) (.tmp 14)⟩, []⟩]
def r6_2 : List RegE := [
  ⟨0, ⟨(some 16), none, .call 17 []⟩, []⟩,
  ⟨1, ⟨(some 4), none, .mov (.tmp 16)⟩, []⟩]
def r6_3 : List RegE := [
  ⟨0, ⟨(some 17), none, .mov (.tmp 1)⟩, []⟩,
  ⟨1, ⟨(some 18), none, .minmax true (.tmp 17) [.const (.int .i64 1)]⟩, []⟩,
  ⟨2, ⟨(some 19), none, .minmax false (.tmp 18) [.const (.int .i64 40)]⟩, []⟩,
  ⟨3, ⟨(some 5), none, .mov (.tmp 19)⟩, []⟩]
def r6_4 : List RegE := [
  ⟨0, ⟨(some 6), none, .mov (.const (.str ⟨#[]⟩))⟩, []⟩]
def r6_5 : List RegE := [
  ⟨0, ⟨(some 7), none, .mov (.const (.int .i64 0))⟩, []⟩]
def r6_6 : List RegE := [
  ⟨0, ⟨(some 20), none, .mov (.tmp 7)⟩, []⟩,
  ⟨1, ⟨(some 21), none, .mov (.tmp 5)⟩, []⟩,
  ⟨2, ⟨(some 22), none, .bin .lss .basic (.tmp 20) (.tmp 21)⟩, []⟩]
def r6_7 : List RegE := [
  ⟨0, ⟨(some 25), none, .mov (.tmp 6)⟩, []⟩,
  ⟨1, ⟨(some 26), none, .mov (.tmp 0)⟩, []⟩,
  ⟨2, ⟨(some 27), none, .bin .add .basic (.tmp 25) (.tmp 26)⟩, []⟩,
  ⟨3, ⟨(some 6), none, .mov (.tmp 27)⟩, []⟩]
def r6_8 : List RegE := [
  ⟨0, ⟨(some 23), none, .mov (.tmp 7)⟩, []⟩,
  ⟨1, ⟨(some 24), none, .bin .add .basic (.tmp 23) (.const (.int .i64 1))⟩, []⟩,
  ⟨2, ⟨(some 7), none, .mov (.tmp 24)⟩, []⟩]
def l6_9 : ACode := .seq (.seq (.seq (.region 3 r6_6) (.cond (.tmp 22) .skip (.exit 0))) (.seq (.block 1 (.region 4 r6_7)) (.region 3 r6_8))) (.forget [0, 5, 6, 7])
def r6_10 : List RegE := [
  ⟨0, ⟨(some 28), none, .mov (.tmp 6)⟩, []⟩,
  ⟨1, ⟨(some 29), none, .call 15 [.tmp 28]⟩, []⟩,
  ⟨2, ⟨(some 30), none, .len false (.tmp 29)⟩, []⟩,
  ⟨3, ⟨(some 31), none, .mov (.tmp 0)⟩, []⟩,
  ⟨4, ⟨(some 32), none, .len true (.tmp 31)⟩, []⟩,
  ⟨5, ⟨(some 33), none, .mov (.tmp 6)⟩, []⟩,
  ⟨6, ⟨(some 34), none, .len true (.tmp 33)⟩, []⟩,
  ⟨7, ⟨(some 35), none, .mov (.tmp 0)⟩, []⟩,
  ⟨8, ⟨(some 36), none, .len true (.tmp 35)⟩, []⟩,
  ⟨9, ⟨(some 37), none, .bin .sub .basic (.tmp 34) (.tmp 36)⟩, []⟩,
  ⟨10, ⟨(some 38), none, .bin .quo .basic (.tmp 37) (.const (.int .i64 258))⟩, []⟩,
  ⟨11, ⟨(some 39), none, .bin .add .basic (.tmp 32) (.tmp 38)⟩, []⟩,
  ⟨12, ⟨(some 40), none, .bin .add .basic (.tmp 39) (.const (.int .i64 3))⟩, []⟩,
  ⟨13, ⟨(some 41), none, .bin .leq .basic (.tmp 30) (.tmp 40)⟩, []⟩,
  ⟨14, ⟨(some 42), none, .mov (.tmp 41)⟩, []⟩,
  ⟨15, ⟨(some 43), (some (42, true)), .call 17 []⟩, []⟩,
  ⟨16, ⟨(some 44), none, .pick (.tmp 42) (.tmp 43) (.const (.bool false))⟩, []⟩,
  ⟨17, ⟨(some 4), none, .mov (.tmp 44)⟩, []⟩]
def k6 : List (Option (List Nat)) := [none, some [0, 1, 15], none, none, none, none, none, some [0, 6], some [0, 5, 6, 7], none, none, none, none, none, some [4]]
def c6 : AFunc := ⟨45, .seq (.region 1 r6_0) (.seq (.seq (.seq (.region 8 r6_1) (.forget [0, 1, 15])) (.cond (.tmp 15) (.seq (.region 2 r6_2) .ret) .skip)) (.seq (.region 4 r6_3) (.seq (.region 1 r6_4) (.seq (.seq (.region 1 r6_5) (.seq (.block 0 (.seq (.forget [0, 5, 6, 7]) (.loop l6_9))) (.forget [0, 6]))) (.seq (.seq (.region 18 r6_10) (.forget [4])) .ret))))), [.tmp 4]⟩
theorem e6 : compFuncA Try.prog 6 k6 = some c6 := by kernel_rfl
/-! 7: vitrine/vitrinelaw01.BitsCrc -/
def r7_0 : List RegE := [
  ⟨0, ⟨(some 2), none, .mov (.const (.bool false))⟩, []⟩]
def r7_1 : List RegE := [
  ⟨0, ⟨(some 3), none, .mov (.tmp 0)⟩, []⟩,
  ⟨1, ⟨(some 4), none, .call 21 [.tmp 3]⟩, []⟩,
  ⟨2, ⟨(some 5), none, .mov (.tmp 0)⟩, []⟩,
  ⟨3, ⟨(some 6), none, .call 22 [.tmp 5]⟩, []⟩,
  ⟨4, ⟨(some 7), none, .bin .eql .basic (.tmp 4) (.tmp 6)⟩, []⟩,
  ⟨5, ⟨(some 8), none, .mov (.tmp 7)⟩, []⟩,
  ⟨6, ⟨(some 9), (some (8, true)), .call 23 []⟩, []⟩,
  ⟨7, ⟨(some 10), none, .pick (.tmp 8) (.tmp 9) (.const (.bool false))⟩, []⟩,
  ⟨8, ⟨(some 2), none, .mov (.tmp 10)⟩, []⟩]
def k7 : List (Option (List Nat)) := [none, some [2]]
def c7 : AFunc := ⟨11, .seq (.region 1 r7_0) (.seq (.seq (.region 9 r7_1) (.forget [2])) .ret), [.tmp 2]⟩
theorem e7 : compFuncA Try.prog 7 k7 = some c7 := by kernel_rfl
/-! 8: vitrine/vitrinelaw01.BitsAdler -/
def r8_0 : List RegE := [
  ⟨0, ⟨(some 2), none, .mov (.const (.bool false))⟩, []⟩]
def r8_1 : List RegE := [
  ⟨0, ⟨(some 3), none, .mov (.tmp 0)⟩, []⟩,
  ⟨1, ⟨(some 4), none, .call 24 [.tmp 3]⟩, []⟩,
  ⟨2, ⟨(some 5), none, .mov (.tmp 0)⟩, []⟩,
  ⟨3, ⟨(some 6), none, .call 25 [.tmp 5]⟩, []⟩,
  ⟨4, ⟨(some 7), none, .bin .eql .basic (.tmp 4) (.tmp 6)⟩, []⟩,
  ⟨5, ⟨(some 8), none, .mov (.tmp 7)⟩, []⟩,
  ⟨6, ⟨(some 9), (some (8, true)), .call 23 []⟩, []⟩,
  ⟨7, ⟨(some 10), none, .pick (.tmp 8) (.tmp 9) (.const (.bool false))⟩, []⟩,
  ⟨8, ⟨(some 2), none, .mov (.tmp 10)⟩, []⟩]
def k8 : List (Option (List Nat)) := [none, some [2]]
def c8 : AFunc := ⟨11, .seq (.region 1 r8_0) (.seq (.seq (.region 9 r8_1) (.forget [2])) .ret), [.tmp 2]⟩
theorem e8 : compFuncA Try.prog 8 k8 = some c8 := by kernel_rfl
/-! 9: vitrine/vitrinelaw01.BitsReads -/
def r9_0 : List RegE := [
  ⟨0, ⟨(some 4), none, .mov (.const (.bool false))⟩, []⟩]
def r9_1 : List RegE := [
  ⟨0, ⟨(some 17), none, .mov (.tmp 0)⟩, []⟩,
  ⟨1, ⟨(some 18), none, .call 26 [.tmp 17]⟩, []⟩,
  ⟨2, ⟨(some 5), none, .mov (.tmp 18)⟩, []⟩]
def r9_2 : List RegE := [
  ⟨0, ⟨(some 19), none, .mov (.tmp 5)⟩, []⟩,
  ⟨1, ⟨(some 20), none, .bin .eql .ptr (.tmp 19) (.const .nilp)⟩, []⟩]
def r9_3 : List RegE := [
  ⟨0, ⟨(some 4), none, .mov (.const (.bool false))⟩, []⟩]
def r9_4 : List RegE := [
  ⟨0, ⟨(some 21), none, .mov (.tmp 0)⟩, []⟩,
  ⟨1, ⟨(some 22), none, .build [.str ⟨#[]⟩, .int .i64 0] [(0, 1, .tmp 21)]⟩, []⟩,
  ⟨2, ⟨(some 23), none, .box (.tmp 22)⟩, []⟩,
  ⟨3, ⟨(some 6), none, .mov (.tmp 23)⟩, []⟩]
def r9_5 : List RegE := [
  ⟨0, ⟨(some 7), none, .mov (.const (.int .i64 0))⟩, []⟩]
def r9_6 : List RegE := [
  ⟨0, ⟨(some 24), none, .mov (.tmp 7)⟩, []⟩,
  ⟨1, ⟨(some 25), none, .mov (.tmp 1)⟩, []⟩,
  ⟨2, ⟨(some 26), none, .len false (.tmp 25)⟩, []⟩,
  ⟨3, ⟨(some 27), none, .bin .lss .basic (.tmp 24) (.tmp 26)⟩, []⟩,
  ⟨4, ⟨(some 28), none, .mov (.tmp 27)⟩, []⟩,
  ⟨5, ⟨(some 29), (some (28, true)), .mov (.tmp 7)⟩, []⟩,
  ⟨6, ⟨(some 30), (some (28, true)), .bin .lss .basic (.tmp 29) (.const (.int .i64 300))⟩, []⟩,
  ⟨7, ⟨(some 31), none, .pick (.tmp 28) (.tmp 30) (.const (.bool false))⟩, []⟩]
def r9_7 : List RegE := [
  ⟨0, ⟨(some 34), none, .mov (.tmp 1)⟩, []⟩,
  ⟨1, ⟨(some 35), none, .mov (.tmp 7)⟩, []⟩,
  ⟨2, ⟨(some 36), none, .iaddrS 3 (.tmp 34) (.tmp 35)⟩, []⟩,
  ⟨3, ⟨(some 37), none, .faddr 1 (.tmp 36)⟩, []⟩,
  ⟨4, ⟨(some 38), none, .load none (.tmp 37)⟩, []⟩,
  ⟨5, ⟨(some 8), none, .mov (.tmp 38)⟩, []⟩]
def r9_8 : List RegE := [
  ⟨0, ⟨(some 39), none, .mov (.tmp 1)⟩, []⟩,
  ⟨1, ⟨(some 40), none, .mov (.tmp 7)⟩, []⟩,
  ⟨2, ⟨(some 41), none, .iaddrS 3 (.tmp 39) (.tmp 40)⟩, []⟩,
  ⟨3, ⟨(some 42), none, .faddr 0 (.tmp 41)⟩, []⟩,
  ⟨4, ⟨(some 43), none, .load none (.tmp 42)⟩, []⟩]
def r9_9 : List RegE := [
  ⟨0, ⟨(some 45), none, .mov (.tmp 5)⟩, []⟩,
  ⟨1, ⟨(some 46), none, .mov (.tmp 8)⟩, []⟩,
  ⟨2, ⟨(some 47), none, .call 27 [.tmp 45, .tmp 46]⟩, []⟩,
  ⟨3, ⟨(some 44), none, .mov (.tmp 47)⟩, []⟩,
  ⟨4, ⟨(some 48), none, .extract (.tmp 44) 0⟩, []⟩,
  ⟨5, ⟨(some 49), none, .extract (.tmp 44) 1⟩, []⟩,
  ⟨6, ⟨(some 9), none, .mov (.tmp 48)⟩, []⟩,
  ⟨7, ⟨(some 10), none, .mov (.tmp 49)⟩, []⟩]
def r9_10 : List RegE := [
  ⟨0, ⟨(some 51), none, .mov (.tmp 6)⟩, []⟩,
  ⟨1, ⟨(some 52), none, .mov (.tmp 8)⟩, []⟩,
  ⟨2, ⟨(some 53), none, .call 28 [.tmp 51, .tmp 52]⟩, []⟩,
  ⟨3, ⟨(some 50), none, .mov (.tmp 53)⟩, []⟩,
  ⟨4, ⟨(some 54), none, .extract (.tmp 50) 0⟩, []⟩,
  ⟨5, ⟨(some 55), none, .extract (.tmp 50) 1⟩, []⟩,
  ⟨6, ⟨(some 11), none, .mov (.tmp 54)⟩, []⟩,
  ⟨7, ⟨(some 12), none, .mov (.tmp 55)⟩, []⟩]
def r9_11 : List RegE := [
  ⟨0, ⟨(some 56), none, .mov (.tmp 9)⟩, []⟩,
  ⟨1, ⟨(some 57), none, .mov (.tmp 11)⟩, []⟩,
  ⟨2, ⟨(some 58), none, .bin .neq .basic (.tmp 56) (.tmp 57)⟩, []⟩,
  ⟨3, ⟨(some 59), none, .mov (.tmp 58)⟩, []⟩,
  ⟨4, ⟨(some 60), (some (59, false)), .mov (.tmp 10)⟩, []⟩,
  ⟨5, ⟨(some 61), (some (59, false)), .mov (.tmp 12)⟩, []⟩,
  ⟨6, ⟨(some 62), (some (59, false)), .bin .neq .basic (.tmp 60) (.tmp 61)⟩, []⟩,
  ⟨7, ⟨(some 63), none, .pick (.tmp 59) (.const (.bool true)) (.tmp 62)⟩, []⟩]
def r9_12 : List RegE := [
  ⟨0, ⟨(some 4), none, .mov (.const (.bool false))⟩, []⟩]
def r9_13 : List RegE := [
  ⟨0, ⟨(some 65), none, .mov (.tmp 5)⟩, []⟩,
  ⟨1, ⟨(some 66), none, .mov (.tmp 8)⟩, []⟩,
  ⟨2, ⟨(some 67), none, .call 29 [.tmp 65, .tmp 66]⟩, []⟩,
  ⟨3, ⟨(some 64), none, .mov (.tmp 67)⟩, []⟩,
  ⟨4, ⟨(some 68), none, .extract (.tmp 64) 0⟩, []⟩,
  ⟨5, ⟨(some 69), none, .extract (.tmp 64) 1⟩, []⟩,
  ⟨6, ⟨(some 13), none, .mov (.tmp 68)⟩, []⟩,
  ⟨7, ⟨(some 14), none, .mov (.tmp 69)⟩, []⟩]
def r9_14 : List RegE := [
  ⟨0, ⟨(some 71), none, .mov (.tmp 6)⟩, []⟩,
  ⟨1, ⟨(some 72), none, .mov (.tmp 8)⟩, []⟩,
  ⟨2, ⟨(some 73), none, .call 30 [.tmp 71, .tmp 72]⟩, []⟩,
  ⟨3, ⟨(some 70), none, .mov (.tmp 73)⟩, []⟩,
  ⟨4, ⟨(some 74), none, .extract (.tmp 70) 0⟩, []⟩,
  ⟨5, ⟨(some 75), none, .extract (.tmp 70) 1⟩, []⟩,
  ⟨6, ⟨(some 15), none, .mov (.tmp 74)⟩, []⟩,
  ⟨7, ⟨(some 16), none, .mov (.tmp 75)⟩, []⟩]
def r9_15 : List RegE := [
  ⟨0, ⟨(some 76), none, .mov (.tmp 13)⟩, []⟩,
  ⟨1, ⟨(some 77), none, .mov (.tmp 15)⟩, []⟩,
  ⟨2, ⟨(some 78), none, .bin .neq .basic (.tmp 76) (.tmp 77)⟩, []⟩,
  ⟨3, ⟨(some 79), none, .mov (.tmp 78)⟩, []⟩,
  ⟨4, ⟨(some 80), (some (79, false)), .mov (.tmp 14)⟩, []⟩,
  ⟨5, ⟨(some 81), (some (79, false)), .mov (.tmp 16)⟩, []⟩,
  ⟨6, ⟨(some 82), (some (79, false)), .bin .neq .basic (.tmp 80) (.tmp 81)⟩, []⟩,
  ⟨7, ⟨(some 83), none, .pick (.tmp 79) (.const (.bool true)) (.tmp 82)⟩, []⟩]
def r9_16 : List RegE := [
  ⟨0, ⟨(some 4), none, .mov (.const (.bool false))⟩, []⟩]
def r9_17 : List RegE := [
  ⟨0, ⟨(some 84), none, .mov (.tmp 5)⟩, []⟩,
  ⟨1, ⟨(some 85), none, .call 31 [.tmp 84]⟩, []⟩,
  ⟨2, ⟨(some 86), none, .mov (.tmp 6)⟩, []⟩,
  ⟨3, ⟨(some 87), none, .call 32 [.tmp 86]⟩, []⟩,
  ⟨4, ⟨(some 88), none, .bin .neq .basic (.tmp 85) (.tmp 87)⟩, []⟩]
def r9_18 : List RegE := [
  ⟨0, ⟨(some 4), none, .mov (.const (.bool false))⟩, []⟩]
def r9_19 : List RegE := [
  ⟨0, ⟨(some 32), none, .mov (.tmp 7)⟩, []⟩,
  ⟨1, ⟨(some 33), none, .bin .add .basic (.tmp 32) (.const (.int .i64 1))⟩, []⟩,
  ⟨2, ⟨(some 7), none, .mov (.tmp 33)⟩, []⟩]
def l9_20 : ACode := .seq (.seq (.seq (.seq (.region 8 r9_6) (.forget [1, 5, 6, 7, 31])) (.cond (.tmp 31) .skip (.exit 0))) (.seq (.seq (.block 1 (.seq (.seq (.region 6 r9_7) (.forget [1, 5, 6, 7, 8])) (.seq (.seq (.seq (.region 5 r9_8) (.forget [1, 5, 6, 7, 8, 43])) (.seq (.cond (.tmp 43) (.seq (.seq (.region 8 r9_9) (.forget [1, 5, 6, 7, 8, 9, 10])) (.seq (.seq (.region 8 r9_10) (.forget [1, 5, 6, 7, 9, 10, 11, 12])) (.seq (.seq (.region 8 r9_11) (.forget [1, 5, 6, 7, 63])) (.cond (.tmp 63) (.seq (.region 1 r9_12) .ret) .skip)))) (.seq (.seq (.region 8 r9_13) (.forget [1, 5, 6, 7, 8, 13, 14])) (.seq (.seq (.region 8 r9_14) (.forget [1, 5, 6, 7, 13, 14, 15, 16])) (.seq (.seq (.region 8 r9_15) (.forget [1, 5, 6, 7, 83])) (.cond (.tmp 83) (.seq (.region 1 r9_16) .ret) .skip))))) (.forget [1, 5, 6, 7]))) (.seq (.seq (.region 5 r9_17) (.forget [1, 5, 6, 7, 88])) (.cond (.tmp 88) (.seq (.region 1 r9_18) .ret) .skip))))) (.forget [1, 5, 6, 7])) (.region 3 r9_19))) (.forget [1, 5, 6, 7])
def r9_21 : List RegE := [
  ⟨0, ⟨(some 89), none, .call 23 []⟩, []⟩,
  ⟨1, ⟨(some 4), none, .mov (.tmp 89)⟩, []⟩]
def k9 : List (Option (List Nat)) := [none, none, none, none, none, none, none, some [], some [1, 5, 6, 7], some [1, 5, 6, 7, 31], none, some [1, 5, 6, 7], some [1, 5, 6, 7, 8], some [1, 5, 6, 7, 8, 43], some [1, 5, 6, 7], some [1, 5, 6, 7, 8, 9, 10], some [1, 5, 6, 7, 9, 10, 11, 12], some [1, 5, 6, 7, 63], none, none, some [1, 5, 6, 7, 8, 13, 14], some [1, 5, 6, 7, 13, 14, 15, 16], some [1, 5, 6, 7, 83], none, none, some [1, 5, 6, 7, 88], none, none, none, none]
def c9 : AFunc := ⟨90, .seq (.region 1 r9_0) (.seq (.region 3 r9_1) (.seq (.seq (.region 2 r9_2) (.cond (.tmp 20) (.seq (.region 1 r9_3) .ret) .skip)) (.seq (.region 4 r9_4) (.seq (.seq (.region 1 r9_5) (.seq (.block 0 (.seq (.forget [1, 5, 6, 7]) (.loop l9_20))) (.forget []))) (.seq (.region 2 r9_21) .ret))))), [.tmp 4]⟩
theorem e9 : compFuncA Try.prog 9 k9 = some c9 := by kernel_rfl
/-! 10: vitrine/vitrinelaw01.BitsWrites -/
def r10_0 : List RegE := [
  ⟨0, ⟨(some 2), none, .mov (.const (.bool false))⟩, []⟩]
def r10_1 : List RegE := [
  ⟨0, ⟨(some 6), none, .call 33 []⟩, []⟩,
  ⟨1, ⟨(some 3), none, .mov (.tmp 6)⟩, []⟩]
def r10_2 : List RegE := [
  ⟨0, ⟨(some 7), none, .mov (.tmp 3)⟩, []⟩,
  ⟨1, ⟨(some 8), none, .bin .eql .ptr (.tmp 7) (.const .nilp)⟩, []⟩]
def r10_3 : List RegE := [
  ⟨0, ⟨(some 2), none, .mov (.const (.bool false))⟩, []⟩]
def r10_4 : List RegE := [
  ⟨0, ⟨(some 9), none, .build [.nils, .int .i64 0] []⟩, []⟩,
  ⟨1, ⟨(some 10), none, .box (.tmp 9)⟩, []⟩,
  ⟨2, ⟨(some 4), none, .mov (.tmp 10)⟩, []⟩]
def r10_5 : List RegE := [
  ⟨0, ⟨(some 5), none, .mov (.const (.int .i64 0))⟩, []⟩]
def r10_6 : List RegE := [
  ⟨0, ⟨(some 11), none, .mov (.tmp 5)⟩, []⟩,
  ⟨1, ⟨(some 12), none, .mov (.tmp 0)⟩, []⟩,
  ⟨2, ⟨(some 13), none, .len false (.tmp 12)⟩, []⟩,
  ⟨3, ⟨(some 14), none, .bin .lss .basic (.tmp 11) (.tmp 13)⟩, []⟩,
  ⟨4, ⟨(some 15), none, .mov (.tmp 14)⟩, []⟩,
  ⟨5, ⟨(some 16), (some (15, true)), .mov (.tmp 5)⟩, []⟩,
  ⟨6, ⟨(some 17), (some (15, true)), .bin .lss .basic (.tmp 16) (.const (.int .i64 300))⟩, []⟩,
  ⟨7, ⟨(some 18), none, .pick (.tmp 15) (.tmp 17) (.const (.bool false))⟩, []⟩]
def r10_7 : List RegE := [
  ⟨0, ⟨(some 21), none, .mov (.tmp 0)⟩, []⟩,
  ⟨1, ⟨(some 22), none, .mov (.tmp 5)⟩, []⟩,
  ⟨2, ⟨(some 23), none, .iaddrS 3 (.tmp 21) (.tmp 22)⟩, []⟩,
  ⟨3, ⟨(some 24), none, .faddr 0 (.tmp 23)⟩, []⟩,
  ⟨4, ⟨(some 25), none, .load none (.tmp 24)⟩, []⟩]
def r10_8 : List RegE := [
  ⟨0, ⟨(some 26), none, .mov (.tmp 3)⟩, []⟩,
  ⟨1, ⟨(some 27), none, .mov (.tmp 0)⟩, []⟩,
  ⟨2, ⟨(some 28), none, .mov (.tmp 5)⟩, []⟩,
  ⟨3, ⟨(some 29), none, .iaddrS 3 (.tmp 27) (.tmp 28)⟩, []⟩,
  ⟨4, ⟨(some 30), none, .load (some 3) (.tmp 29)⟩, []⟩,
  ⟨5, ⟨(some 31), none, .call 35 [.tmp 30]⟩, []⟩,
  ⟨6, ⟨(some 32), none, .call 34 [.tmp 26, .tmp 31]⟩, []⟩]
def r10_9 : List RegE := [
  ⟨0, ⟨(some 33), none, .mov (.tmp 4)⟩, []⟩,
  ⟨1, ⟨(some 34), none, .mov (.tmp 0)⟩, []⟩,
  ⟨2, ⟨(some 35), none, .mov (.tmp 5)⟩, []⟩,
  ⟨3, ⟨(some 36), none, .iaddrS 3 (.tmp 34) (.tmp 35)⟩, []⟩,
  ⟨4, ⟨(some 37), none, .load (some 3) (.tmp 36)⟩, []⟩,
  ⟨5, ⟨(some 38), none, .call 35 [.tmp 37]⟩, []⟩,
  ⟨6, ⟨(some 39), none, .call 36 [.tmp 33, .tmp 38]⟩, []⟩]
def r10_10 : List RegE := [
  ⟨0, ⟨(some 40), none, .mov (.tmp 3)⟩, []⟩,
  ⟨1, ⟨(some 41), none, .mov (.tmp 0)⟩, []⟩,
  ⟨2, ⟨(some 42), none, .mov (.tmp 5)⟩, []⟩,
  ⟨3, ⟨(some 43), none, .iaddrS 3 (.tmp 41) (.tmp 42)⟩, []⟩,
  ⟨4, ⟨(some 44), none, .faddr 2 (.tmp 43)⟩, []⟩,
  ⟨5, ⟨(some 45), none, .load none (.tmp 44)⟩, []⟩,
  ⟨6, ⟨(some 46), none, .mov (.tmp 0)⟩, []⟩,
  ⟨7, ⟨(some 47), none, .mov (.tmp 5)⟩, []⟩,
  ⟨8, ⟨(some 48), none, .iaddrS 3 (.tmp 46) (.tmp 47)⟩, []⟩,
  ⟨9, ⟨(some 49), none, .faddr 1 (.tmp 48)⟩, []⟩,
  ⟨10, ⟨(some 50), none, .load none (.tmp 49)⟩, []⟩,
  ⟨11, ⟨(some 51), none, .call 37 [.tmp 40, .tmp 45, .tmp 50]⟩, []⟩]
def r10_11 : List RegE := [
  ⟨0, ⟨(some 52), none, .mov (.tmp 4)⟩, []⟩,
  ⟨1, ⟨(some 53), none, .mov (.tmp 0)⟩, []⟩,
  ⟨2, ⟨(some 54), none, .mov (.tmp 5)⟩, []⟩,
  ⟨3, ⟨(some 55), none, .iaddrS 3 (.tmp 53) (.tmp 54)⟩, []⟩,
  ⟨4, ⟨(some 56), none, .faddr 2 (.tmp 55)⟩, []⟩,
  ⟨5, ⟨(some 57), none, .load none (.tmp 56)⟩, []⟩,
  ⟨6, ⟨(some 58), none, .mov (.tmp 0)⟩, []⟩,
  ⟨7, ⟨(some 59), none, .mov (.tmp 5)⟩, []⟩,
  ⟨8, ⟨(some 60), none, .iaddrS 3 (.tmp 58) (.tmp 59)⟩, []⟩,
  ⟨9, ⟨(some 61), none, .faddr 1 (.tmp 60)⟩, []⟩,
  ⟨10, ⟨(some 62), none, .load none (.tmp 61)⟩, []⟩,
  ⟨11, ⟨(some 63), none, .call 38 [.tmp 52, .tmp 57, .tmp 62]⟩, []⟩]
def r10_12 : List RegE := [
  ⟨0, ⟨(some 64), none, .mov (.tmp 3)⟩, []⟩,
  ⟨1, ⟨(some 65), none, .call 39 [.tmp 64]⟩, []⟩,
  ⟨2, ⟨(some 66), none, .mov (.tmp 4)⟩, []⟩,
  ⟨3, ⟨(some 67), none, .call 40 [.tmp 66]⟩, []⟩,
  ⟨4, ⟨(some 68), none, .bin .neq .basic (.tmp 65) (.tmp 67)⟩, []⟩]
def r10_13 : List RegE := [
  ⟨0, ⟨(some 2), none, .mov (.const (.bool false))⟩, []⟩]
def r10_14 : List RegE := [
  ⟨0, ⟨(some 19), none, .mov (.tmp 5)⟩, []⟩,
  ⟨1, ⟨(some 20), none, .bin .add .basic (.tmp 19) (.const (.int .i64 1))⟩, []⟩,
  ⟨2, ⟨(some 5), none, .mov (.tmp 20)⟩, []⟩]
def l10_15 : ACode := .seq (.seq (.seq (.seq (.region 8 r10_6) (.forget [0, 3, 4, 5, 18])) (.cond (.tmp 18) .skip (.exit 0))) (.seq (.seq (.block 1 (.seq (.seq (.seq (.region 5 r10_7) (.forget [0, 3, 4, 5, 25])) (.seq (.cond (.tmp 25) (.seq (.seq (.region 7 r10_8) (.forget [0, 3, 4, 5])) (.seq (.region 7 r10_9) (.forget [0, 3, 4, 5]))) (.seq (.seq (.region 12 r10_10) (.forget [0, 3, 4, 5])) (.seq (.region 12 r10_11) (.forget [0, 3, 4, 5])))) (.forget [0, 3, 4, 5]))) (.seq (.seq (.region 5 r10_12) (.forget [0, 3, 4, 5, 68])) (.cond (.tmp 68) (.seq (.region 1 r10_13) .ret) .skip)))) (.forget [0, 3, 4, 5])) (.region 3 r10_14))) (.forget [0, 3, 4, 5])
def r10_16 : List RegE := [
  ⟨0, ⟨(some 69), none, .call 23 []⟩, []⟩,
  ⟨1, ⟨(some 2), none, .mov (.tmp 69)⟩, []⟩]
def k10 : List (Option (List Nat)) := [none, none, none, none, none, none, none, some [], some [0, 3, 4, 5], some [0, 3, 4, 5, 18], none, some [0, 3, 4, 5], some [0, 3, 4, 5, 25], some [0, 3, 4, 5], some [0, 3, 4, 5], some [0, 3, 4, 5], some [0, 3, 4, 5], some [0, 3, 4, 5], some [0, 3, 4, 5, 68], none, none, none, none]
def c10 : AFunc := ⟨70, .seq (.region 1 r10_0) (.seq (.region 2 r10_1) (.seq (.seq (.region 2 r10_2) (.cond (.tmp 8) (.seq (.region 1 r10_3) .ret) .skip)) (.seq (.region 3 r10_4) (.seq (.seq (.region 1 r10_5) (.seq (.block 0 (.seq (.forget [0, 3, 4, 5]) (.loop l10_15))) (.forget []))) (.seq (.region 2 r10_16) .ret))))), [.tmp 2]⟩
theorem e10 : compFuncA Try.prog 10 k10 = some c10 := by kernel_rfl
/-! 11: vitrine/vitrinelaw01.BitsBack -/
def r11_0 : List RegE := [
  ⟨0, ⟨(some 2), none, .mov (.const (.bool false))⟩, []⟩]
def r11_1 : List RegE := [
  ⟨0, ⟨(some 15), none, .call 33 []⟩, []⟩,
  ⟨1, ⟨(some 3), none, .mov (.tmp 15)⟩, []⟩]
def r11_2 : List RegE := [
  ⟨0, ⟨(some 4), none, .mov (.const (.int .i64 0))⟩, []⟩]
def r11_3 : List RegE := [
  ⟨0, ⟨(some 16), none, .mov (.tmp 4)⟩, []⟩,
  ⟨1, ⟨(some 17), none, .mov (.tmp 0)⟩, []⟩,
  ⟨2, ⟨(some 18), none, .len false (.tmp 17)⟩, []⟩,
  ⟨3, ⟨(some 19), none, .bin .lss .basic (.tmp 16) (.tmp 18)⟩, []⟩,
  ⟨4, ⟨(some 20), none, .mov (.tmp 19)⟩, []⟩,
  ⟨5, ⟨(some 21), (some (20, true)), .mov (.tmp 4)⟩, []⟩,
  ⟨6, ⟨(some 22), (some (20, true)), .bin .lss .basic (.tmp 21) (.const (.int .i64 300))⟩, []⟩,
  ⟨7, ⟨(some 23), none, .pick (.tmp 20) (.tmp 22) (.const (.bool false))⟩, []⟩]
def r11_4 : List RegE := [
  ⟨0, ⟨(some 26), none, .mov (.tmp 0)⟩, []⟩,
  ⟨1, ⟨(some 27), none, .mov (.tmp 4)⟩, []⟩,
  ⟨2, ⟨(some 28), none, .iaddrS 3 (.tmp 26) (.tmp 27)⟩, []⟩,
  ⟨3, ⟨(some 29), none, .faddr 0 (.tmp 28)⟩, []⟩,
  ⟨4, ⟨(some 30), none, .load none (.tmp 29)⟩, []⟩]
def r11_5 : List RegE := [
  ⟨0, ⟨(some 31), none, .mov (.tmp 3)⟩, []⟩,
  ⟨1, ⟨(some 32), none, .mov (.tmp 0)⟩, []⟩,
  ⟨2, ⟨(some 33), none, .mov (.tmp 4)⟩, []⟩,
  ⟨3, ⟨(some 34), none, .iaddrS 3 (.tmp 32) (.tmp 33)⟩, []⟩,
  ⟨4, ⟨(some 35), none, .load (some 3) (.tmp 34)⟩, []⟩,
  ⟨5, ⟨(some 36), none, .call 35 [.tmp 35]⟩, []⟩,
  ⟨6, ⟨(some 37), none, .call 34 [.tmp 31, .tmp 36]⟩, []⟩]
def r11_6 : List RegE := [
  ⟨0, ⟨(some 38), none, .mov (.tmp 3)⟩, []⟩,
  ⟨1, ⟨(some 39), none, .mov (.tmp 0)⟩, []⟩,
  ⟨2, ⟨(some 40), none, .mov (.tmp 4)⟩, []⟩,
  ⟨3, ⟨(some 41), none, .iaddrS 3 (.tmp 39) (.tmp 40)⟩, []⟩,
  ⟨4, ⟨(some 42), none, .faddr 2 (.tmp 41)⟩, []⟩,
  ⟨5, ⟨(some 43), none, .load none (.tmp 42)⟩, []⟩,
  ⟨6, ⟨(some 44), none, .mov (.tmp 0)⟩, []⟩,
  ⟨7, ⟨(some 45), none, .mov (.tmp 4)⟩, []⟩,
  ⟨8, ⟨(some 46), none, .iaddrS 3 (.tmp 44) (.tmp 45)⟩, []⟩,
  ⟨9, ⟨(some 47), none, .faddr 1 (.tmp 46)⟩, []⟩,
  ⟨10, ⟨(some 48), none, .load none (.tmp 47)⟩, []⟩,
  ⟨11, ⟨(some 49), none, .call 37 [.tmp 38, .tmp 43, .tmp 48]⟩, []⟩]
def r11_7 : List RegE := [
  ⟨0, ⟨(some 24), none, .mov (.tmp 4)⟩, []⟩,
  ⟨1, ⟨(some 25), none, .bin .add .basic (.tmp 24) (.const (.int .i64 1))⟩, []⟩,
  ⟨2, ⟨(some 4), none, .mov (.tmp 25)⟩, []⟩]
def l11_8 : ACode := .seq (.seq (.seq (.seq (.region 8 r11_3) (.forget [0, 3, 4, 23])) (.cond (.tmp 23) .skip (.exit 0))) (.seq (.seq (.block 1 (.seq (.seq (.region 5 r11_4) (.forget [0, 3, 4, 30])) (.seq (.cond (.tmp 30) (.seq (.region 7 r11_5) (.forget [0, 3, 4])) (.seq (.region 12 r11_6) (.forget [0, 3, 4]))) (.forget [0, 3, 4])))) (.forget [0, 3, 4])) (.region 3 r11_7))) (.forget [0, 3, 4])
def r11_9 : List RegE := [
  ⟨0, ⟨(some 50), none, .mov (.tmp 3)⟩, []⟩,
  ⟨1, ⟨(some 51), none, .call 39 [.tmp 50]⟩, []⟩,
  ⟨2, ⟨(some 52), none, .call 26 [.tmp 51]⟩, []⟩,
  ⟨3, ⟨(some 5), none, .mov (.tmp 52)⟩, []⟩]
def r11_10 : List RegE := [
  ⟨0, ⟨(some 6), none, .mov (.const (.int .i64 0))⟩, []⟩]
def r11_11 : List RegE := [
  ⟨0, ⟨(some 53), none, .mov (.tmp 6)⟩, []⟩,
  ⟨1, ⟨(some 54), none, .mov (.tmp 0)⟩, []⟩,
  ⟨2, ⟨(some 55), none, .len false (.tmp 54)⟩, []⟩,
  ⟨3, ⟨(some 56), none, .bin .lss .basic (.tmp 53) (.tmp 55)⟩, []⟩,
  ⟨4, ⟨(some 57), none, .mov (.tmp 56)⟩, []⟩,
  ⟨5, ⟨(some 58), (some (57, true)), .mov (.tmp 6)⟩, []⟩,
  ⟨6, ⟨(some 59), (some (57, true)), .bin .lss .basic (.tmp 58) (.const (.int .i64 300))⟩, []⟩,
  ⟨7, ⟨(some 60), none, .pick (.tmp 57) (.tmp 59) (.const (.bool false))⟩, []⟩]
def r11_12 : List RegE := [
  ⟨0, ⟨(some 63), none, .mov (.tmp 0)⟩, []⟩,
  ⟨1, ⟨(some 64), none, .mov (.tmp 6)⟩, []⟩,
  ⟨2, ⟨(some 65), none, .iaddrS 3 (.tmp 63) (.tmp 64)⟩, []⟩,
  ⟨3, ⟨(some 66), none, .faddr 1 (.tmp 65)⟩, []⟩,
  ⟨4, ⟨(some 67), none, .load none (.tmp 66)⟩, []⟩,
  ⟨5, ⟨(some 7), none, .mov (.tmp 67)⟩, []⟩]
def r11_13 : List RegE := [
  ⟨0, ⟨(some 68), none, .mov (.tmp 0)⟩, []⟩,
  ⟨1, ⟨(some 69), none, .mov (.tmp 6)⟩, []⟩,
  ⟨2, ⟨(some 70), none, .iaddrS 3 (.tmp 68) (.tmp 69)⟩, []⟩,
  ⟨3, ⟨(some 71), none, .faddr 0 (.tmp 70)⟩, []⟩,
  ⟨4, ⟨(some 72), none, .load none (.tmp 71)⟩, []⟩]
def r11_14 : List RegE := [
  ⟨0, ⟨(some 74), none, .mov (.tmp 5)⟩, []⟩,
  ⟨1, ⟨(some 75), none, .mov (.tmp 0)⟩, []⟩,
  ⟨2, ⟨(some 76), none, .mov (.tmp 6)⟩, []⟩,
  ⟨3, ⟨(some 77), none, .iaddrS 3 (.tmp 75) (.tmp 76)⟩, []⟩,
  ⟨4, ⟨(some 78), none, .load (some 3) (.tmp 77)⟩, []⟩,
  ⟨5, ⟨(some 79), none, .call 35 [.tmp 78]⟩, []⟩,
  ⟨6, ⟨(some 80), none, .len true (.tmp 79)⟩, []⟩,
  ⟨7, ⟨(some 81), none, .call 27 [.tmp 74, .tmp 80]⟩, []⟩,
  ⟨8, ⟨(some 73), none, .mov (.tmp 81)⟩, []⟩,
  ⟨9, ⟨(some 82), none, .extract (.tmp 73) 0⟩, []⟩,
  ⟨10, ⟨(some 83), none, .extract (.tmp 73) 1⟩, []⟩,
  ⟨11, ⟨(some 8), none, .mov (.tmp 82)⟩, []⟩,
  ⟨12, ⟨(some 9), none, .mov (.tmp 83)⟩, []⟩]
def r11_15 : List RegE := [
  ⟨0, ⟨(some 84), none, .mov (.tmp 9)⟩, []⟩,
  ⟨1, ⟨(some 85), none, .bin .neq .basic (.tmp 84) (.const (.int .i64 0))⟩, []⟩,
  ⟨2, ⟨(some 86), none, .mov (.tmp 85)⟩, []⟩,
  ⟨3, ⟨(some 87), (some (86, false)), .mov (.tmp 8)⟩, []⟩,
  ⟨4, ⟨(some 88), (some (86, false)), .mov (.tmp 0)⟩, []⟩,
  ⟨5, ⟨(some 89), (some (86, false)), .mov (.tmp 6)⟩, []⟩,
  ⟨6, ⟨(some 90), (some (86, false)), .iaddrS 3 (.tmp 88) (.tmp 89)⟩, []⟩,
  ⟨7, ⟨(some 91), (some (86, false)), .load (some 3) (.tmp 90)⟩, []⟩,
  ⟨8, ⟨(some 92), (some (86, false)), .call 35 [.tmp 91]⟩, []⟩,
  ⟨9, ⟨(some 93), (some (86, false)), .bin .neq .basic (.tmp 87) (.tmp 92)⟩, []⟩,
  ⟨10, ⟨(some 94), none, .pick (.tmp 86) (.const (.bool true)) (.tmp 93)⟩, []⟩]
def r11_16 : List RegE := [
  ⟨0, ⟨(some 2), none, .mov (.const (.bool false))⟩, []⟩]
def r11_17 : List RegE := [
  ⟨0, ⟨(some 95), none, .mov (.tmp 7)⟩, []⟩,
  ⟨1, ⟨(some 96), none, .bin .lss .basic (.tmp 95) (.const (.int .i64 0))⟩, []⟩,
  ⟨2, ⟨(some 97), none, .mov (.tmp 96)⟩, []⟩,
  ⟨3, ⟨(some 98), (some (97, false)), .mov (.tmp 7)⟩, []⟩,
  ⟨4, ⟨(some 99), (some (97, false)), .bin .gtr .basic (.tmp 98) (.const (.int .i64 24))⟩, []⟩,
  ⟨5, ⟨(some 100), none, .pick (.tmp 97) (.const (.bool true)) (.tmp 99)⟩, []⟩]
def r11_18 : List RegE := [
  ⟨0, ⟨(some 102), none, .mov (.tmp 5)⟩, []⟩,
  ⟨1, ⟨(some 103), none, .mov (.tmp 7)⟩, []⟩,
  ⟨2, ⟨(some 104), none, .call 29 [.tmp 102, .tmp 103]⟩, []⟩,
  ⟨3, ⟨(some 101), none, .mov (.tmp 104)⟩, []⟩,
  ⟨4, ⟨(some 105), none, .extract (.tmp 101) 0⟩, []⟩,
  ⟨5, ⟨(some 106), none, .extract (.tmp 101) 1⟩, []⟩,
  ⟨6, ⟨(some 10), none, .mov (.tmp 105)⟩, []⟩,
  ⟨7, ⟨(some 11), none, .mov (.tmp 106)⟩, []⟩]
def r11_19 : List RegE := [
  ⟨0, ⟨(some 107), none, .mov (.tmp 11)⟩, []⟩,
  ⟨1, ⟨(some 108), none, .bin .neq .basic (.tmp 107) (.const (.int .i64 0))⟩, []⟩,
  ⟨2, ⟨(some 109), none, .mov (.tmp 108)⟩, []⟩,
  ⟨3, ⟨(some 110), (some (109, false)), .mov (.tmp 10)⟩, []⟩,
  ⟨4, ⟨(some 111), (some (109, false)), .mov (.tmp 0)⟩, []⟩,
  ⟨5, ⟨(some 112), (some (109, false)), .mov (.tmp 6)⟩, []⟩,
  ⟨6, ⟨(some 113), (some (109, false)), .iaddrS 3 (.tmp 111) (.tmp 112)⟩, []⟩,
  ⟨7, ⟨(some 114), (some (109, false)), .faddr 2 (.tmp 113)⟩, []⟩,
  ⟨8, ⟨(some 115), (some (109, false)), .load none (.tmp 114)⟩, []⟩,
  ⟨9, ⟨(some 116), (some (109, false)), .mov (.tmp 7)⟩, []⟩,
  ⟨10, ⟨(some 117), (some (109, false)), .bin .shl .basic (.const (.int .i64 1)) (.tmp 116)⟩, []⟩,
  ⟨11, ⟨(some 118), (some (109, false)), .bin .sub .basic (.tmp 117) (.const (.int .i64 1))⟩, []⟩,
  ⟨12, ⟨(some 119), (some (109, false)), .bin .and .basic (.tmp 115) (.tmp 118)⟩, []⟩,
  ⟨13, ⟨(some 120), (some (109, false)), .bin .neq .basic (.tmp 110) (.tmp 119)⟩, []⟩,
  ⟨14, ⟨(some 121), none, .pick (.tmp 109) (.const (.bool true)) (.tmp 120)⟩, []⟩]
def r11_20 : List RegE := [
  ⟨0, ⟨(some 2), none, .mov (.const (.bool false))⟩, []⟩]
def r11_21 : List RegE := [
  ⟨0, ⟨(some 61), none, .mov (.tmp 6)⟩, []⟩,
  ⟨1, ⟨(some 62), none, .bin .add .basic (.tmp 61) (.const (.int .i64 1))⟩, []⟩,
  ⟨2, ⟨(some 6), none, .mov (.tmp 62)⟩, []⟩]
def l11_22 : ACode := .seq (.seq (.seq (.seq (.region 8 r11_11) (.forget [0, 5, 6, 60])) (.cond (.tmp 60) .skip (.exit 2))) (.seq (.seq (.block 3 (.seq (.seq (.region 6 r11_12) (.forget [0, 5, 6, 7])) (.seq (.seq (.seq (.region 5 r11_13) (.forget [0, 5, 6, 7, 72])) (.cond (.tmp 72) (.seq (.seq (.region 13 r11_14) (.forget [0, 5, 6, 8, 9])) (.seq (.seq (.seq (.region 11 r11_15) (.forget [0, 5, 6, 94])) (.cond (.tmp 94) (.seq (.region 1 r11_16) .ret) .skip)) (.exit 3))) .skip)) (.seq (.seq (.seq (.region 6 r11_17) (.forget [0, 5, 6, 7, 100])) (.cond (.tmp 100) (.exit 3) .skip)) (.seq (.seq (.region 8 r11_18) (.forget [0, 5, 6, 7, 10, 11])) (.seq (.seq (.region 15 r11_19) (.forget [0, 5, 6, 121])) (.cond (.tmp 121) (.seq (.region 1 r11_20) .ret) .skip))))))) (.forget [0, 5, 6])) (.region 3 r11_21))) (.forget [0, 5, 6])
def r11_23 : List RegE := [
  ⟨0, ⟨(some 122), none, .mov (.tmp 5)⟩, []⟩,
  ⟨1, ⟨(some 123), none, .call 31 [.tmp 122]⟩, []⟩,
  ⟨2, ⟨(some 12), none, .mov (.tmp 123)⟩, []⟩]
def r11_24 : List RegE := [
  ⟨0, ⟨(some 124), none, .mov (.tmp 12)⟩, []⟩,
  ⟨1, ⟨(some 125), none, .bin .lss .basic (.tmp 124) (.const (.int .i64 0))⟩, []⟩,
  ⟨2, ⟨(some 126), none, .mov (.tmp 125)⟩, []⟩,
  ⟨3, ⟨(some 127), (some (126, false)), .mov (.tmp 12)⟩, []⟩,
  ⟨4, ⟨(some 128), (some (126, false)), .bin .gtr .basic (.tmp 127) (.const (.int .i64 7))⟩, []⟩,
  ⟨5, ⟨(some 129), none, .pick (.tmp 126) (.const (.bool true)) (.tmp 128)⟩, []⟩]
def r11_25 : List RegE := [
  ⟨0, ⟨(some 2), none, .mov (.const (.bool false))⟩, []⟩]
def r11_26 : List RegE := [
  ⟨0, ⟨(some 131), none, .mov (.tmp 5)⟩, []⟩,
  ⟨1, ⟨(some 132), none, .mov (.tmp 12)⟩, []⟩,
  ⟨2, ⟨(some 133), none, .call 29 [.tmp 131, .tmp 132]⟩, []⟩,
  ⟨3, ⟨(some 130), none, .mov (.tmp 133)⟩, []⟩,
  ⟨4, ⟨(some 134), none, .extract (.tmp 130) 0⟩, []⟩,
  ⟨5, ⟨(some 135), none, .extract (.tmp 130) 1⟩, []⟩,
  ⟨6, ⟨(some 13), none, .mov (.tmp 134)⟩, []⟩,
  ⟨7, ⟨(some 14), none, .mov (.tmp 135)⟩, []⟩]
def r11_27 : List RegE := [
  ⟨0, ⟨(some 136), none, .mov (.tmp 14)⟩, []⟩,
  ⟨1, ⟨(some 137), none, .bin .eql .basic (.tmp 136) (.const (.int .i64 0))⟩, []⟩,
  ⟨2, ⟨(some 138), none, .mov (.tmp 137)⟩, []⟩,
  ⟨3, ⟨(some 139), (some (138, true)), .mov (.tmp 13)⟩, []⟩,
  ⟨4, ⟨(some 140), (some (138, true)), .bin .eql .basic (.tmp 139) (.const (.int .i64 0))⟩, []⟩,
  ⟨5, ⟨(some 141), none, .pick (.tmp 138) (.tmp 140) (.const (.bool false))⟩, []⟩,
  ⟨6, ⟨(some 142), none, .mov (.tmp 141)⟩, []⟩,
  ⟨7, ⟨(some 143), (some (142, true)), .call 23 []⟩, []⟩,
  ⟨8, ⟨(some 144), none, .pick (.tmp 142) (.tmp 143) (.const (.bool false))⟩, []⟩,
  ⟨9, ⟨(some 2), none, .mov (.tmp 144)⟩, []⟩]
def k11 : List (Option (List Nat)) := [none, none, none, some [0, 3], some [0, 3, 4], some [0, 3, 4, 23], none, some [0, 3, 4], some [0, 3, 4, 30], some [0, 3, 4], some [0, 3, 4], some [0, 3, 4], none, none, none, some [5], some [0, 5, 6], some [0, 5, 6, 60], none, some [0, 5, 6], some [0, 5, 6, 7], some [0, 5, 6, 7, 72], none, some [0, 5, 6, 8, 9], some [0, 5, 6, 94], none, none, some [0, 5, 6, 7, 100], none, some [0, 5, 6, 7, 10, 11], some [0, 5, 6, 121], none, none, none, none, some [5, 12, 129], none, none, some [13, 14], some [2]]
def c11 : AFunc := ⟨145, .seq (.region 1 r11_0) (.seq (.region 2 r11_1) (.seq (.seq (.region 1 r11_2) (.seq (.block 0 (.seq (.forget [0, 3, 4]) (.loop l11_8))) (.forget [0, 3]))) (.seq (.region 4 r11_9) (.seq (.seq (.region 1 r11_10) (.seq (.block 2 (.seq (.forget [0, 5, 6]) (.loop l11_22))) (.forget [5]))) (.seq (.region 3 r11_23) (.seq (.seq (.seq (.region 6 r11_24) (.forget [5, 12, 129])) (.cond (.tmp 129) (.seq (.region 1 r11_25) .ret) .skip)) (.seq (.seq (.region 8 r11_26) (.forget [13, 14])) (.seq (.seq (.region 10 r11_27) (.forget [2])) .ret)))))))), [.tmp 2]⟩
theorem e11 : compFuncA Try.prog 11 k11 = some c11 := by kernel_rfl
/-! 12: vitrine/vitrinelaw01.BitsTold -/
def r12_0 : List RegE := [
  ⟨0, ⟨(some 6), none, .mov (.const (.bool false))⟩, []⟩]
def r12_1 : List RegE := [
  ⟨0, ⟨(some 9), none, .mov (.tmp 0)⟩, []⟩,
  ⟨1, ⟨(some 10), none, .len true (.tmp 9)⟩, []⟩,
  ⟨2, ⟨(some 11), none, .bin .eql .basic (.tmp 10) (.const (.int .i64 0))⟩, []⟩,
  ⟨3, ⟨(some 12), none, .mov (.tmp 11)⟩, []⟩,
  ⟨4, ⟨(some 13), (some (12, false)), .mov (.tmp 2)⟩, []⟩,
  ⟨5, ⟨(some 14), (some (12, false)), .bin .eql .basic (.tmp 13) (.const (.int .u8 0))⟩, []⟩,
  ⟨6, ⟨(some 15), none, .pick (.tmp 12) (.const (.bool true)) (.tmp 14)⟩, []⟩]
def r12_2 : List RegE := [
  ⟨0, ⟨(some 16), none, .call 23 []⟩, []⟩,
  ⟨1, ⟨(some 6), none, .mov (.tmp 16)⟩, []⟩]
def r12_3 : List RegE := [
  ⟨0, ⟨(some 17), none, .mov (.tmp 1)⟩, []⟩,
  ⟨1, ⟨(some 18), none, .mov (.tmp 0)⟩, []⟩,
  ⟨2, ⟨(some 19), none, .len true (.tmp 18)⟩, []⟩,
  ⟨3, ⟨(some 20), none, .bin .rem .basic (.tmp 17) (.tmp 19)⟩, []⟩,
  ⟨4, ⟨(some 21), none, .mov (.tmp 0)⟩, []⟩,
  ⟨5, ⟨(some 22), none, .len true (.tmp 21)⟩, []⟩,
  ⟨6, ⟨(some 23), none, .bin .add .basic (.tmp 20) (.tmp 22)⟩, []⟩,
  ⟨7, ⟨(some 24), none, .mov (.tmp 0)⟩, []⟩,
  ⟨8, ⟨(some 25), none, .len true (.tmp 24)⟩, []⟩,
  ⟨9, ⟨(some 26), none, .bin .rem .basic (.tmp 23) (.tmp 25)⟩, []⟩,
  ⟨10, ⟨(some 7), none, .mov (.tmp 26)⟩, []⟩]
def r12_4 : List RegE := [
  ⟨0, ⟨(some 27), none, .mov (.tmp 0)⟩, []⟩,
  ⟨1, ⟨(some 28), none, .conv .strBytes (.tmp 27)⟩, []⟩,
  ⟨2, ⟨(some 8), none, .mov (.tmp 28)⟩, []⟩]
def r12_5 : List RegE := [
  ⟨0, ⟨(some 29), none, .mov (.tmp 8)⟩, []⟩,
  ⟨1, ⟨(some 30), none, .mov (.tmp 7)⟩, []⟩,
  ⟨2, ⟨(some 31), none, .mov (.tmp 8)⟩, []⟩,
  ⟨3, ⟨(some 32), none, .mov (.tmp 7)⟩, []⟩,
  ⟨4, ⟨(some 33), none, .iaddrS 1 (.tmp 31) (.tmp 32)⟩, []⟩,
  ⟨5, ⟨(some 34), none, .load none (.tmp 33)⟩, []⟩,
  ⟨6, ⟨(some 35), none, .mov (.tmp 2)⟩, []⟩,
  ⟨7, ⟨(some 36), none, .bin .xor .basic (.tmp 34) (.tmp 35)⟩, []⟩,
  ⟨8, ⟨(some 37), none, .iaddrS 1 (.tmp 29) (.tmp 30)⟩, []⟩,
  ⟨9, ⟨none, none, .store 1 (.tmp 37) (.tmp 36)⟩, []⟩]
def r12_6 : List RegE := [
  ⟨0, ⟨(some 38), none, .mov (.tmp 8)⟩, []⟩,
  ⟨1, ⟨(some 39), none, .conv .bytesStr (.tmp 38)⟩, []⟩,
  ⟨2, ⟨(some 40), none, .call 21 [.tmp 39]⟩, []⟩,
  ⟨3, ⟨(some 41), none, .mov (.tmp 0)⟩, []⟩,
  ⟨4, ⟨(some 42), none, .call 21 [.tmp 41]⟩, []⟩,
  ⟨5, ⟨(some 43), none, .bin .neq .basic (.tmp 40) (.tmp 42)⟩, []⟩,
  ⟨6, ⟨(some 44), none, .mov (.tmp 43)⟩, []⟩,
  ⟨7, ⟨(some 45), (some (44, true)), .call 23 []⟩, []⟩,
  ⟨8, ⟨(some 46), none, .pick (.tmp 44) (.tmp 45) (.const (.bool false))⟩, []⟩,
  ⟨9, ⟨(some 6), none, .mov (.tmp 46)⟩, []⟩]
def k12 : List (Option (List Nat)) := [none, some [0, 1, 2, 15], none, none, some [0, 2, 7], none, some [0, 8], some [6]]
def c12 : AFunc := ⟨47, .seq (.region 1 r12_0) (.seq (.seq (.seq (.region 7 r12_1) (.forget [0, 1, 2, 15])) (.cond (.tmp 15) (.seq (.region 2 r12_2) .ret) .skip)) (.seq (.seq (.region 11 r12_3) (.forget [0, 2, 7])) (.seq (.region 3 r12_4) (.seq (.seq (.region 10 r12_5) (.forget [0, 8])) (.seq (.seq (.region 10 r12_6) (.forget [6])) .ret))))), [.tmp 6]⟩
theorem e12 : compFuncA Try.prog 12 k12 = some c12 := by kernel_rfl
/-! 13: vitrine/vitrinelaw01.BitsNil -/
def r13_0 : List RegE := [
  ⟨0, ⟨(some 2), none, .mov (.const (.bool false))⟩, []⟩]
def r13_1 : List RegE := [
  ⟨0, ⟨(some 3), none, .mov (.const .nilp)⟩, []⟩]
def r13_2 : List RegE := [
  ⟨0, ⟨(some 4), none, .mov (.const .nilp)⟩, []⟩]
def r13_3 : List RegE := [
  ⟨0, ⟨(some 10), none, .mov (.tmp 3)⟩, []⟩,
  ⟨1, ⟨(some 11), none, .mov (.tmp 0)⟩, []⟩,
  ⟨2, ⟨(some 12), none, .call 29 [.tmp 10, .tmp 11]⟩, []⟩,
  ⟨3, ⟨(some 9), none, .mov (.tmp 12)⟩, []⟩,
  ⟨4, ⟨(some 13), none, .extract (.tmp 9) 0⟩, []⟩,
  ⟨5, ⟨(some 14), none, .extract (.tmp 9) 1⟩, []⟩,
  ⟨6, ⟨(some 5), none, .mov (.tmp 13)⟩, []⟩,
  ⟨7, ⟨(some 6), none, .mov (.tmp 14)⟩, []⟩]
def r13_4 : List RegE := [
  ⟨0, ⟨(some 16), none, .mov (.tmp 3)⟩, []⟩,
  ⟨1, ⟨(some 17), none, .mov (.tmp 0)⟩, []⟩,
  ⟨2, ⟨(some 18), none, .call 27 [.tmp 16, .tmp 17]⟩, []⟩,
  ⟨3, ⟨(some 15), none, .mov (.tmp 18)⟩, []⟩,
  ⟨4, ⟨(some 19), none, .extract (.tmp 15) 0⟩, []⟩,
  ⟨5, ⟨(some 20), none, .extract (.tmp 15) 1⟩, []⟩,
  ⟨6, ⟨(some 7), none, .mov (.tmp 19)⟩, []⟩,
  ⟨7, ⟨(some 8), none, .mov (.tmp 20)⟩, []⟩]
def r13_5 : List RegE := [
  ⟨0, ⟨(some 21), none, .mov (.tmp 4)⟩, []⟩,
  ⟨1, ⟨(some 22), none, .mov (.tmp 0)⟩, []⟩,
  ⟨2, ⟨(some 23), none, .call 37 [.tmp 21, .tmp 22, .const (.int .i64 8)]⟩, []⟩]
def r13_6 : List RegE := [
  ⟨0, ⟨(some 24), none, .mov (.tmp 4)⟩, []⟩,
  ⟨1, ⟨(some 25), none, .call 34 [.tmp 24, .const (.str ⟨#[120]⟩)]⟩, []⟩]
def r13_7 : List RegE := [
  ⟨0, ⟨(some 26), none, .mov (.tmp 6)⟩, []⟩,
  ⟨1, ⟨(some 27), none, .bin .eql .basic (.tmp 26) (.const (.int .i64 2))⟩, []⟩,
  ⟨2, ⟨(some 28), none, .mov (.tmp 27)⟩, []⟩,
  ⟨3, ⟨(some 29), (some (28, true)), .mov (.tmp 8)⟩, []⟩,
  ⟨4, ⟨(some 30), (some (28, true)), .bin .eql .basic (.tmp 29) (.const (.int .i64 2))⟩, []⟩,
  ⟨5, ⟨(some 31), none, .pick (.tmp 28) (.tmp 30) (.const (.bool false))⟩, []⟩,
  ⟨6, ⟨(some 32), none, .mov (.tmp 31)⟩, []⟩,
  ⟨7, ⟨(some 33), (some (32, true)), .mov (.tmp 3)⟩, []⟩,
  ⟨8, ⟨(some 34), (some (32, true)), .call 31 [.tmp 33]⟩, []⟩,
  ⟨9, ⟨(some 35), (some (32, true)), .bin .eql .basic (.tmp 34) (.const (.int .i64 0))⟩, []⟩,
  ⟨10, ⟨(some 36), none, .pick (.tmp 32) (.tmp 35) (.const (.bool false))⟩, []⟩,
  ⟨11, ⟨(some 37), none, .mov (.tmp 36)⟩, []⟩,
  ⟨12, ⟨(some 38), (some (37, true)), .mov (.tmp 4)⟩, []⟩,
  ⟨13, ⟨(some 39), (some (37, true)), .call 39 [.tmp 38]⟩, []⟩,
  ⟨14, ⟨(some 40), (some (37, true)), .bin .eql .basic (.tmp 39) (.const (.str ⟨#[]⟩))⟩, []⟩,
  ⟨15, ⟨(some 41), none, .pick (.tmp 37) (.tmp 40) (.const (.bool false))⟩, []⟩,
  ⟨16, ⟨(some 42), none, .mov (.tmp 41)⟩, []⟩,
  ⟨17, ⟨(some 43), (some (42, true)), .call 23 []⟩, []⟩,
  ⟨18, ⟨(some 44), none, .pick (.tmp 42) (.tmp 43) (.const (.bool false))⟩, []⟩,
  ⟨19, ⟨(some 2), none, .mov (.tmp 44)⟩, []⟩]
def k13 : List (Option (List Nat)) := [none, none, none, some [0, 3, 4, 6], some [0, 3, 4, 6, 8], none, none, some [2]]
def c13 : AFunc := ⟨45, .seq (.region 1 r13_0) (.seq (.region 1 r13_1) (.seq (.region 1 r13_2) (.seq (.seq (.region 8 r13_3) (.forget [0, 3, 4, 6])) (.seq (.seq (.region 8 r13_4) (.forget [0, 3, 4, 6, 8])) (.seq (.region 3 r13_5) (.seq (.region 2 r13_6) (.seq (.seq (.region 20 r13_7) (.forget [2])) .ret))))))), [.tmp 2]⟩
theorem e13 : compFuncA Try.prog 13 k13 = some c13 := by kernel_rfl
/-! 14: vitrine/vitrinelaw04.tokens -/
def r14_0 : List RegE := [
  ⟨0, ⟨(some 4), none, .mov (.const (.bool false))⟩, []⟩]
def r14_1 : List RegE := [
  ⟨0, ⟨(some 6), none, .mov (.tmp 0)⟩, []⟩,
  ⟨1, ⟨(some 7), none, .len false (.tmp 6)⟩, []⟩,
  ⟨2, ⟨(some 8), none, .mov (.tmp 1)⟩, []⟩,
  ⟨3, ⟨(some 9), none, .len false (.tmp 8)⟩, []⟩,
  ⟨4, ⟨(some 10), none, .bin .neq .basic (.tmp 7) (.tmp 9)⟩, []⟩]
def r14_2 : List RegE := [
  ⟨0, ⟨(some 4), none, .mov (.const (.bool false))⟩, []⟩]
def r14_3 : List RegE := [
  ⟨0, ⟨(some 5), none, .mov (.const (.int .i64 0))⟩, []⟩]
def r14_4 : List RegE := [
  ⟨0, ⟨(some 11), none, .mov (.tmp 5)⟩, []⟩,
  ⟨1, ⟨(some 12), none, .mov (.tmp 0)⟩, []⟩,
  ⟨2, ⟨(some 13), none, .len false (.tmp 12)⟩, []⟩,
  ⟨3, ⟨(some 14), none, .bin .lss .basic (.tmp 11) (.tmp 13)⟩, []⟩]
def r14_5 : List RegE := [
  ⟨0, ⟨(some 17), none, .mov (.tmp 0)⟩, []⟩,
  ⟨1, ⟨(some 18), none, .mov (.tmp 5)⟩, []⟩,
  ⟨2, ⟨(some 19), none, .iaddrS 3 (.tmp 17) (.tmp 18)⟩, []⟩,
  ⟨3, ⟨(some 20), none, .load (some 3) (.tmp 19)⟩, []⟩,
  ⟨4, ⟨(some 21), none, .mov (.tmp 1)⟩, []⟩,
  ⟨5, ⟨(some 22), none, .mov (.tmp 5)⟩, []⟩,
  ⟨6, ⟨(some 23), none, .iaddrS 3 (.tmp 21) (.tmp 22)⟩, []⟩,
  ⟨7, ⟨(some 24), none, .load (some 3) (.tmp 23)⟩, []⟩,
  ⟨8, ⟨(some 25), none, .bin .neq (.flat [(0, 1), (1, 1), (2, 1)]) (.tmp 20) (.tmp 24)⟩, []⟩]
def r14_6 : List RegE := [
  ⟨0, ⟨(some 4), none, .mov (.const (.bool false))⟩, []⟩]
def r14_7 : List RegE := [
  ⟨0, ⟨(some 15), none, .mov (.tmp 5)⟩, []⟩,
  ⟨1, ⟨(some 16), none, .bin .add .basic (.tmp 15) (.const (.int .i64 1))⟩, []⟩,
  ⟨2, ⟨(some 5), none, .mov (.tmp 16)⟩, []⟩]
def l14_8 : ACode := .seq (.seq (.seq (.region 4 r14_4) (.cond (.tmp 14) .skip (.exit 0))) (.seq (.seq (.block 1 (.seq (.seq (.region 9 r14_5) (.forget [0, 1, 5, 25])) (.cond (.tmp 25) (.seq (.region 1 r14_6) .ret) .skip))) (.forget [0, 1, 5])) (.region 3 r14_7))) (.forget [0, 1, 5])
def r14_9 : List RegE := [
  ⟨0, ⟨(some 4), none, .mov (.const (.bool true))⟩, []⟩]
def k14 : List (Option (List Nat)) := [none, some [0, 1, 10], none, none, none, some [], some [0, 1, 5], none, none, some [0, 1, 5], some [0, 1, 5, 25], none, none, none, none]
def c14 : AFunc := ⟨26, .seq (.region 1 r14_0) (.seq (.seq (.seq (.region 5 r14_1) (.forget [0, 1, 10])) (.cond (.tmp 10) (.seq (.region 1 r14_2) .ret) .skip)) (.seq (.seq (.region 1 r14_3) (.seq (.block 0 (.seq (.forget [0, 1, 5]) (.loop l14_8))) (.forget []))) (.seq (.region 1 r14_9) .ret))), [.tmp 4]⟩
theorem e14 : compFuncA Try.prog 14 k14 = some c14 := by kernel_rfl
/-! 15: vitrine/lz.Tokens -/
def r15_0 : List RegE := [
  ⟨0, ⟨(some 1), none, .box (.tmp 0)⟩, []⟩,
  ⟨1, ⟨(some 2), none, .mov (.const .nils)⟩, []⟩]
def r15_1 : List RegE := [
  ⟨0, ⟨(some 3), none, .mov (.const .nils)⟩, []⟩]
def r15_2 : List RegE := [
  ⟨0, ⟨(some 12), none, .mkMap⟩, []⟩,
  ⟨1, ⟨(some 4), none, .alloc [.nilm]⟩, []⟩,
  ⟨2, ⟨none, none, .store 1 (.tmp 4) (.tmp 12)⟩, []⟩]
def r15_3 : List RegE := [
  ⟨0, ⟨(some 13), none, .mkFn 41 [.tmp 1, .tmp 4]⟩, []⟩,
  ⟨1, ⟨(some 5), none, .mov (.tmp 13)⟩, []⟩]
def r15_4 : List RegE := [
  ⟨0, ⟨(some 6), none, .mov (.const (.int .i64 0))⟩, []⟩]
def r15_5 : List RegE := [
  ⟨0, ⟨(some 14), none, .mov (.tmp 6)⟩, []⟩,
  ⟨1, ⟨(some 15), none, .load none (.tmp 1)⟩, []⟩,
  ⟨2, ⟨(some 16), none, .len true (.tmp 15)⟩, []⟩,
  ⟨3, ⟨(some 17), none, .bin .lss .basic (.tmp 14) (.tmp 16)⟩, []⟩]
def r15_6 : List RegE := [
  ⟨0, ⟨(some 7), none, .mov (.const (.int .i64 0))⟩, []⟩,
  ⟨1, ⟨(some 8), none, .mov (.const (.int .i64 0))⟩, []⟩]
def r15_7 : List RegE := [
  ⟨0, ⟨(some 18), none, .mov (.tmp 6)⟩, []⟩,
  ⟨1, ⟨(some 19), none, .bin .add .basic (.tmp 18) (.const (.int .i64 3))⟩, []⟩,
  ⟨2, ⟨(some 20), none, .load none (.tmp 1)⟩, []⟩,
  ⟨3, ⟨(some 21), none, .len true (.tmp 20)⟩, []⟩,
  ⟨4, ⟨(some 22), none, .bin .leq .basic (.tmp 19) (.tmp 21)⟩, []⟩]
def r15_8 : List RegE := [
  ⟨0, ⟨(some 23), none, .load none (.tmp 4)⟩, []⟩,
  ⟨1, ⟨(some 24), none, .load none (.tmp 1)⟩, []⟩,
  ⟨2, ⟨(some 25), none, .mov (.tmp 6)⟩, []⟩,
  ⟨3, ⟨(some 26), none, .mov (.tmp 6)⟩, []⟩,
  ⟨4, ⟨(some 27), none, .bin .add .basic (.tmp 26) (.const (.int .i64 3))⟩, []⟩,
  ⟨5, ⟨(some 28), none, .slStr (.tmp 24) (some (.tmp 25)) (some (.tmp 27))⟩, []⟩,
  ⟨6, ⟨(some 29), none, .lookup true (.nils) false (.tmp 23) (.tmp 28)⟩, []⟩,
  ⟨7, ⟨(some 9), none, .mov (.tmp 29)⟩, []⟩]
def r15_9 : List RegE := [
  ⟨0, ⟨(some 30), none, .mov (.tmp 9)⟩, []⟩,
  ⟨1, ⟨(some 31), none, .len false (.tmp 30)⟩, []⟩,
  ⟨2, ⟨(some 32), none, .bin .sub .basic (.tmp 31) (.const (.int .i64 1))⟩, []⟩,
  ⟨3, ⟨(some 10), none, .mov (.tmp 32)⟩, []⟩]
def r15_10 : List RegE := [
  ⟨0, ⟨(some 33), none, .mov (.tmp 10)⟩, []⟩,
  ⟨1, ⟨(some 34), none, .bin .geq .basic (.tmp 33) (.const (.int .i64 0))⟩, []⟩,
  ⟨2, ⟨(some 35), none, .mov (.tmp 34)⟩, []⟩,
  ⟨3, ⟨(some 36), (some (35, true)), .mov (.tmp 6)⟩, []⟩,
  ⟨4, ⟨(some 37), (some (35, true)), .mov (.tmp 9)⟩, []⟩,
  ⟨5, ⟨(some 38), (some (35, true)), .mov (.tmp 10)⟩, []⟩,
  ⟨6, ⟨(some 39), (some (35, true)), .iaddrS 1 (.tmp 37) (.tmp 38)⟩, []⟩,
  ⟨7, ⟨(some 40), (some (35, true)), .load none (.tmp 39)⟩, []⟩,
  ⟨8, ⟨(some 41), (some (35, true)), .bin .sub .basic (.tmp 36) (.tmp 40)⟩, []⟩,
  ⟨9, ⟨(some 42), (some (35, true)), .bin .leq .basic (.tmp 41) (.const (.int .i64 512))⟩, []⟩,
  ⟨10, ⟨(some 43), none, .pick (.tmp 35) (.tmp 42) (.const (.bool false))⟩, []⟩]
def r15_11 : List RegE := [
  ⟨0, ⟨(some 11), none, .mov (.const (.int .i64 3))⟩, []⟩]
def r15_12 : List RegE := [
  ⟨0, ⟨(some 46), none, .mov (.tmp 11)⟩, []⟩,
  ⟨1, ⟨(some 47), none, .bin .lss .basic (.tmp 46) (.const (.int .i64 258))⟩, []⟩,
  ⟨2, ⟨(some 48), none, .mov (.tmp 47)⟩, []⟩,
  ⟨3, ⟨(some 49), (some (48, true)), .mov (.tmp 6)⟩, []⟩,
  ⟨4, ⟨(some 50), (some (48, true)), .mov (.tmp 11)⟩, []⟩,
  ⟨5, ⟨(some 51), (some (48, true)), .bin .add .basic (.tmp 49) (.tmp 50)⟩, []⟩,
  ⟨6, ⟨(some 52), (some (48, true)), .load none (.tmp 1)⟩, []⟩,
  ⟨7, ⟨(some 53), (some (48, true)), .len true (.tmp 52)⟩, []⟩,
  ⟨8, ⟨(some 54), (some (48, true)), .bin .lss .basic (.tmp 51) (.tmp 53)⟩, []⟩,
  ⟨9, ⟨(some 55), none, .pick (.tmp 48) (.tmp 54) (.const (.bool false))⟩, []⟩,
  ⟨10, ⟨(some 56), none, .mov (.tmp 55)⟩, []⟩,
  ⟨11, ⟨(some 57), (some (56, true)), .load none (.tmp 1)⟩, []⟩,
  ⟨12, ⟨(some 58), (some (56, true)), .mov (.tmp 6)⟩, []⟩,
  ⟨13, ⟨(some 59), (some (56, true)), .mov (.tmp 11)⟩, []⟩,
  ⟨14, ⟨(some 60), (some (56, true)), .bin .add .basic (.tmp 58) (.tmp 59)⟩, []⟩,
  ⟨15, ⟨(some 61), (some (56, true)), .idxStr (.tmp 57) (.tmp 60)⟩, []⟩,
  ⟨16, ⟨(some 62), (some (56, true)), .load none (.tmp 1)⟩, []⟩,
  ⟨17, ⟨(some 63), (some (56, true)), .mov (.tmp 9)⟩, []⟩,
  ⟨18, ⟨(some 64), (some (56, true)), .mov (.tmp 10)⟩, []⟩,
  ⟨19, ⟨(some 65), (some (56, true)), .iaddrS 1 (.tmp 63) (.tmp 64)⟩, []⟩,
  ⟨20, ⟨(some 66), (some (56, true)), .load none (.tmp 65)⟩, []⟩,
  ⟨21, ⟨(some 67), (some (56, true)), .mov (.tmp 11)⟩, []⟩,
  ⟨22, ⟨(some 68), (some (56, true)), .bin .add .basic (.tmp 66) (.tmp 67)⟩, []⟩,
  ⟨23, ⟨(some 69), (some (56, true)), .idxStr (.tmp 62) (.tmp 68)⟩, []⟩,
  ⟨24, ⟨(some 70), (some (56, true)), .bin .eql .basic (.tmp 61) (.tmp 69)⟩, []⟩,
  ⟨25, ⟨(some 71), none, .pick (.tmp 56) (.tmp 70) (.const (.bool false))⟩, []⟩]
def r15_13 : List RegE := [
  ⟨0, ⟨(some 72), none, .mov (.tmp 11)⟩, []⟩,
  ⟨1, ⟨(some 73), none, .bin .add .basic (.tmp 72) (.const (.int .i64 1))⟩, []⟩,
  ⟨2, ⟨(some 11), none, .mov (.tmp 73)⟩, []⟩]
def l15_14 : ACode := .seq (.seq (.seq (.seq (.region 26 r15_12) (.forget [1, 3, 4, 5, 6, 7, 8, 9, 10, 11, 71])) (.cond (.tmp 71) .skip (.exit 4))) (.block 5 (.region 3 r15_13))) (.forget [1, 3, 4, 5, 6, 7, 8, 9, 10, 11])
def r15_15 : List RegE := [
  ⟨0, ⟨(some 74), none, .mov (.tmp 11)⟩, []⟩,
  ⟨1, ⟨(some 75), none, .mov (.tmp 7)⟩, []⟩,
  ⟨2, ⟨(some 76), none, .bin .gtr .basic (.tmp 74) (.tmp 75)⟩, []⟩]
def r15_16 : List RegE := [
  ⟨0, ⟨(some 77), none, .mov (.tmp 11)⟩, []⟩,
  ⟨1, ⟨(some 78), none, .mov (.tmp 6)⟩, []⟩,
  ⟨2, ⟨(some 79), none, .mov (.tmp 9)⟩, []⟩,
  ⟨3, ⟨(some 80), none, .mov (.tmp 10)⟩, []⟩,
  ⟨4, ⟨(some 81), none, .iaddrS 1 (.tmp 79) (.tmp 80)⟩, []⟩,
  ⟨5, ⟨(some 82), none, .load none (.tmp 81)⟩, []⟩,
  ⟨6, ⟨(some 83), none, .bin .sub .basic (.tmp 78) (.tmp 82)⟩, []⟩,
  ⟨7, ⟨(some 7), none, .mov (.tmp 77)⟩, []⟩,
  ⟨8, ⟨(some 8), none, .mov (.tmp 83)⟩, []⟩]
def r15_17 : List RegE := [
  ⟨0, ⟨(some 84), none, .mov (.tmp 7)⟩, []⟩,
  ⟨1, ⟨(some 85), none, .bin .eql .basic (.tmp 84) (.const (.int .i64 258))⟩, []⟩]
def r15_18 : List RegE := [
  ⟨0, ⟨(some 44), none, .mov (.tmp 10)⟩, []⟩,
  ⟨1, ⟨(some 45), none, .bin .sub .basic (.tmp 44) (.const (.int .i64 1))⟩, []⟩,
  ⟨2, ⟨(some 10), none, .mov (.tmp 45)⟩, []⟩]
def l15_19 : ACode := .seq (.seq (.seq (.seq (.region 11 r15_10) (.forget [1, 3, 4, 5, 6, 7, 8, 9, 10, 43])) (.cond (.tmp 43) .skip (.exit 2))) (.seq (.seq (.block 3 (.seq (.region 1 r15_11) (.seq (.seq (.block 4 (.seq (.forget [1, 3, 4, 5, 6, 7, 8, 9, 10, 11]) (.loop l15_14))) (.forget [1, 3, 4, 5, 6, 7, 8, 9, 10, 11])) (.seq (.seq (.region 3 r15_15) (.seq (.cond (.tmp 76) (.seq (.region 9 r15_16) (.forget [1, 3, 4, 5, 6, 7, 8, 9, 10])) .skip) (.forget [1, 3, 4, 5, 6, 7, 8, 9, 10]))) (.seq (.region 2 r15_17) (.cond (.tmp 85) (.exit 2) .skip)))))) (.forget [1, 3, 4, 5, 6, 7, 8, 9, 10])) (.region 3 r15_18))) (.forget [1, 3, 4, 5, 6, 7, 8, 9, 10])
def r15_20 : List RegE := [
  ⟨0, ⟨(some 86), none, .mov (.tmp 7)⟩, []⟩,
  ⟨1, ⟨(some 87), none, .bin .lss .basic (.tmp 86) (.const (.int .i64 3))⟩, []⟩]
def r15_21 : List RegE := [
  ⟨0, ⟨(some 88), none, .mov (.tmp 3)⟩, []⟩,
  ⟨1, ⟨(some 89), none, .load none (.tmp 1)⟩, []⟩,
  ⟨2, ⟨(some 90), none, .mov (.tmp 6)⟩, []⟩,
  ⟨3, ⟨(some 91), none, .idxStr (.tmp 89) (.tmp 90)⟩, []⟩,
  ⟨4, ⟨(some 92), none, .conv (.toInt .i64) (.tmp 91)⟩, []⟩,
  ⟨5, ⟨(some 93), none, .build [.int .i64 0, .int .i64 0, .int .i64 0] [(0, 1, .tmp 92)]⟩, []⟩,
  ⟨6, ⟨(some 94), none, .newSlice 1 [.int .i64 0, .int .i64 0, .int .i64 0] [(0, 3, .tmp 93)]⟩, []⟩,
  ⟨7, ⟨(some 95), none, .append 3 24 (.tmp 88) (.tmp 94)⟩, []⟩,
  ⟨8, ⟨(some 3), none, .mov (.tmp 95)⟩, []⟩]
def r15_22 : List RegE := [
  ⟨0, ⟨(some 96), none, .mov (.tmp 5)⟩, []⟩,
  ⟨1, ⟨(some 97), none, .mov (.tmp 6)⟩, []⟩,
  ⟨2, ⟨(some 98), none, .callv (.tmp 96) [.tmp 97, .const (.int .i64 1)]⟩, []⟩]
def r15_23 : List RegE := [
  ⟨0, ⟨(some 99), none, .mov (.tmp 6)⟩, []⟩,
  ⟨1, ⟨(some 100), none, .bin .add .basic (.tmp 99) (.const (.int .i64 1))⟩, []⟩,
  ⟨2, ⟨(some 6), none, .mov (.tmp 100)⟩, []⟩]
def r15_24 : List RegE := [
  ⟨0, ⟨(some 101), none, .mov (.tmp 3)⟩, []⟩,
  ⟨1, ⟨(some 102), none, .mov (.tmp 7)⟩, []⟩,
  ⟨2, ⟨(some 103), none, .mov (.tmp 8)⟩, []⟩,
  ⟨3, ⟨(some 104), none, .build [.int .i64 0, .int .i64 0, .int .i64 0] [(1, 1, .tmp 102), (2, 1, .tmp 103)]⟩, []⟩,
  ⟨4, ⟨(some 105), none, .newSlice 1 [.int .i64 0, .int .i64 0, .int .i64 0] [(0, 3, .tmp 104)]⟩, []⟩,
  ⟨5, ⟨(some 106), none, .append 3 24 (.tmp 101) (.tmp 105)⟩, []⟩,
  ⟨6, ⟨(some 3), none, .mov (.tmp 106)⟩, []⟩]
def r15_25 : List RegE := [
  ⟨0, ⟨(some 107), none, .mov (.tmp 5)⟩, []⟩,
  ⟨1, ⟨(some 108), none, .mov (.tmp 6)⟩, []⟩,
  ⟨2, ⟨(some 109), none, .mov (.tmp 7)⟩, []⟩,
  ⟨3, ⟨(some 110), none, .callv (.tmp 107) [.tmp 108, .tmp 109]⟩, []⟩]
def r15_26 : List RegE := [
  ⟨0, ⟨(some 111), none, .mov (.tmp 6)⟩, []⟩,
  ⟨1, ⟨(some 112), none, .mov (.tmp 7)⟩, []⟩,
  ⟨2, ⟨(some 113), none, .bin .add .basic (.tmp 111) (.tmp 112)⟩, []⟩,
  ⟨3, ⟨(some 6), none, .mov (.tmp 113)⟩, []⟩]
def l15_27 : ACode := .seq (.seq (.seq (.region 4 r15_5) (.cond (.tmp 17) .skip (.exit 0))) (.seq (.block 1 (.seq (.region 2 r15_6) (.seq (.seq (.seq (.region 5 r15_7) (.forget [1, 3, 4, 5, 6, 7, 8, 22])) (.seq (.cond (.tmp 22) (.seq (.seq (.region 8 r15_8) (.forget [1, 3, 4, 5, 6, 7, 8, 9])) (.seq (.region 4 r15_9) (.seq (.block 2 (.seq (.forget [1, 3, 4, 5, 6, 7, 8, 9, 10]) (.loop l15_19))) (.forget [1, 3, 4, 5, 6, 7, 8])))) .skip) (.forget [1, 3, 4, 5, 6, 7, 8]))) (.seq (.seq (.region 2 r15_20) (.cond (.tmp 87) (.seq (.seq (.region 9 r15_21) (.forget [1, 3, 4, 5, 6])) (.seq (.region 3 r15_22) (.seq (.region 3 r15_23) (.exit 1)))) .skip)) (.seq (.seq (.region 7 r15_24) (.forget [1, 3, 4, 5, 6, 7])) (.seq (.region 4 r15_25) (.region 4 r15_26))))))) (.forget [1, 3, 4, 5, 6]))) (.forget [1, 3, 4, 5, 6])
def r15_28 : List RegE := [
  ⟨0, ⟨(some 114), none, .mov (.tmp 3)⟩, []⟩,
  ⟨1, ⟨(some 2), none, .mov (.tmp 114)⟩, []⟩]
def k15 : List (Option (List Nat)) := [none, none, none, none, none, some [3], some [1, 3, 4, 5, 6], none, none, some [1, 3, 4, 5, 6], none, some [1, 3, 4, 5, 6, 7, 8, 22], some [1, 3, 4, 5, 6, 7, 8], some [1, 3, 4, 5, 6, 7, 8, 9], none, some [1, 3, 4, 5, 6, 7, 8], some [1, 3, 4, 5, 6, 7, 8, 9, 10], some [1, 3, 4, 5, 6, 7, 8, 9, 10, 43], none, some [1, 3, 4, 5, 6, 7, 8, 9, 10], none, some [1, 3, 4, 5, 6, 7, 8, 9, 10, 11], some [1, 3, 4, 5, 6, 7, 8, 9, 10, 11], some [1, 3, 4, 5, 6, 7, 8, 9, 10, 11, 71], none, none, none, none, some [1, 3, 4, 5, 6, 7, 8, 9, 10], some [1, 3, 4, 5, 6, 7, 8, 9, 10], none, none, none, none, none, some [1, 3, 4, 5, 6], none, none, some [1, 3, 4, 5, 6, 7], none, none, none]
def c15 : AFunc := ⟨115, .seq (.region 2 r15_0) (.scope (.seq (.region 1 r15_1) (.seq (.region 3 r15_2) (.seq (.region 2 r15_3) (.seq (.region 1 r15_4) (.seq .skip (.seq (.seq (.block 0 (.seq (.forget [1, 3, 4, 5, 6]) (.loop l15_27))) (.forget [3])) (.seq (.region 2 r15_28) .ret)))))))), [.tmp 2]⟩
theorem e15 : compFuncA Try.prog 15 k15 = some c15 := by kernel_rfl
/-! 16: vitrine/vitrineref04.Tokens -/
def r16_0 : List RegE := [
  ⟨0, ⟨(some 2), none, .mov (.const .nils)⟩, []⟩]
def r16_1 : List RegE := [
  ⟨0, ⟨(some 3), none, .mov (.const .nils)⟩, []⟩]
def r16_2 : List RegE := [
  ⟨0, ⟨(some 4), none, .mov (.const (.int .i64 0))⟩, []⟩]
def r16_3 : List RegE := [
  ⟨0, ⟨(some 9), none, .mov (.tmp 4)⟩, []⟩,
  ⟨1, ⟨(some 10), none, .mov (.tmp 0)⟩, []⟩,
  ⟨2, ⟨(some 11), none, .len true (.tmp 10)⟩, []⟩,
  ⟨3, ⟨(some 12), none, .bin .lss .basic (.tmp 9) (.tmp 11)⟩, []⟩]
def r16_4 : List RegE := [
  ⟨0, ⟨(some 5), none, .mov (.const (.int .i64 0))⟩, []⟩]
def r16_5 : List RegE := [
  ⟨0, ⟨(some 6), none, .mov (.const (.int .i64 0))⟩, []⟩]
def r16_6 : List RegE := [
  ⟨0, ⟨(some 7), none, .mov (.const (.int .i64 1))⟩, []⟩]
def r16_7 : List RegE := [
  ⟨0, ⟨(some 13), none, .mov (.tmp 7)⟩, []⟩,
  ⟨1, ⟨(some 14), none, .bin .leq .basic (.tmp 13) (.const (.int .i64 512))⟩, []⟩,
  ⟨2, ⟨(some 15), none, .mov (.tmp 14)⟩, []⟩,
  ⟨3, ⟨(some 16), (some (15, true)), .mov (.tmp 7)⟩, []⟩,
  ⟨4, ⟨(some 17), (some (15, true)), .mov (.tmp 4)⟩, []⟩,
  ⟨5, ⟨(some 18), (some (15, true)), .bin .leq .basic (.tmp 16) (.tmp 17)⟩, []⟩,
  ⟨6, ⟨(some 19), none, .pick (.tmp 15) (.tmp 18) (.const (.bool false))⟩, []⟩]
def r16_8 : List RegE := [
  ⟨0, ⟨(some 8), none, .mov (.const (.int .i64 0))⟩, []⟩]
def r16_9 : List RegE := [
  ⟨0, ⟨(some 22), none, .mov (.tmp 8)⟩, []⟩,
  ⟨1, ⟨(some 23), none, .bin .lss .basic (.tmp 22) (.const (.int .i64 258))⟩, []⟩,
  ⟨2, ⟨(some 24), none, .mov (.tmp 23)⟩, []⟩,
  ⟨3, ⟨(some 25), (some (24, true)), .mov (.tmp 4)⟩, []⟩,
  ⟨4, ⟨(some 26), (some (24, true)), .mov (.tmp 8)⟩, []⟩,
  ⟨5, ⟨(some 27), (some (24, true)), .bin .add .basic (.tmp 25) (.tmp 26)⟩, []⟩,
  ⟨6, ⟨(some 28), (some (24, true)), .mov (.tmp 0)⟩, []⟩,
  ⟨7, ⟨(some 29), (some (24, true)), .len true (.tmp 28)⟩, []⟩,
  ⟨8, ⟨(some 30), (some (24, true)), .bin .lss .basic (.tmp 27) (.tmp 29)⟩, []⟩,
  ⟨9, ⟨(some 31), none, .pick (.tmp 24) (.tmp 30) (.const (.bool false))⟩, []⟩,
  ⟨10, ⟨(some 32), none, .mov (.tmp 31)⟩, []⟩,
  ⟨11, ⟨(some 33), (some (32, true)), .mov (.tmp 0)⟩, []⟩,
  ⟨12, ⟨(some 34), (some (32, true)), .mov (.tmp 4)⟩, []⟩,
  ⟨13, ⟨(some 35), (some (32, true)), .mov (.tmp 8)⟩, []⟩,
  ⟨14, ⟨(some 36), (some (32, true)), .bin .add .basic (.tmp 34) (.tmp 35)⟩, []⟩,
  ⟨15, ⟨(some 37), (some (32, true)), .idxStr (.tmp 33) (.tmp 36)⟩, []⟩,
  ⟨16, ⟨(some 38), (some (32, true)), .mov (.tmp 0)⟩, []⟩,
  ⟨17, ⟨(some 39), (some (32, true)), .mov (.tmp 4)⟩, []⟩,
  ⟨18, ⟨(some 40), (some (32, true)), .mov (.tmp 8)⟩, []⟩,
  ⟨19, ⟨(some 41), (some (32, true)), .bin .add .basic (.tmp 39) (.tmp 40)⟩, []⟩,
  ⟨20, ⟨(some 42), (some (32, true)), .mov (.tmp 7)⟩, []⟩,
  ⟨21, ⟨(some 43), (some (32, true)), .bin .sub .basic (.tmp 41) (.tmp 42)⟩, []⟩,
  ⟨22, ⟨(some 44), (some (32, true)), .idxStr (.tmp 38) (.tmp 43)⟩, []⟩,
  ⟨23, ⟨(some 45), (some (32, true)), .bin .eql .basic (.tmp 37) (.tmp 44)⟩, []⟩,
  ⟨24, ⟨(some 46), none, .pick (.tmp 32) (.tmp 45) (.const (.bool false))⟩, []⟩]
def r16_10 : List RegE := [
  ⟨0, ⟨(some 47), none, .mov (.tmp 8)⟩, []⟩,
  ⟨1, ⟨(some 48), none, .bin .add .basic (.tmp 47) (.const (.int .i64 1))⟩, []⟩,
  ⟨2, ⟨(some 8), none, .mov (.tmp 48)⟩, []⟩]
def l16_11 : ACode := .seq (.seq (.seq (.seq (.region 25 r16_9) (.forget [0, 3, 4, 5, 6, 7, 8, 46])) (.cond (.tmp 46) .skip (.exit 4))) (.block 5 (.region 3 r16_10))) (.forget [0, 3, 4, 5, 6, 7, 8])
def r16_12 : List RegE := [
  ⟨0, ⟨(some 49), none, .mov (.tmp 8)⟩, []⟩,
  ⟨1, ⟨(some 50), none, .mov (.tmp 5)⟩, []⟩,
  ⟨2, ⟨(some 51), none, .bin .gtr .basic (.tmp 49) (.tmp 50)⟩, []⟩]
def r16_13 : List RegE := [
  ⟨0, ⟨(some 52), none, .mov (.tmp 8)⟩, []⟩,
  ⟨1, ⟨(some 5), none, .mov (.tmp 52)⟩, []⟩]
def r16_14 : List RegE := [
  ⟨0, ⟨(some 53), none, .mov (.tmp 7)⟩, []⟩,
  ⟨1, ⟨(some 6), none, .mov (.tmp 53)⟩, []⟩]
def r16_15 : List RegE := [
  ⟨0, ⟨(some 20), none, .mov (.tmp 7)⟩, []⟩,
  ⟨1, ⟨(some 21), none, .bin .add .basic (.tmp 20) (.const (.int .i64 1))⟩, []⟩,
  ⟨2, ⟨(some 7), none, .mov (.tmp 21)⟩, []⟩]
def l16_16 : ACode := .seq (.seq (.seq (.seq (.region 7 r16_7) (.forget [0, 3, 4, 5, 6, 7, 19])) (.cond (.tmp 19) .skip (.exit 2))) (.seq (.seq (.block 3 (.seq (.region 1 r16_8) (.seq (.seq (.block 4 (.seq (.forget [0, 3, 4, 5, 6, 7, 8]) (.loop l16_11))) (.forget [0, 3, 4, 5, 6, 7, 8])) (.seq (.region 3 r16_12) (.seq (.cond (.tmp 51) (.seq (.region 2 r16_13) (.region 2 r16_14)) .skip) (.forget [0, 3, 4, 5, 6, 7])))))) (.forget [0, 3, 4, 5, 6, 7])) (.region 3 r16_15))) (.forget [0, 3, 4, 5, 6, 7])
def r16_17 : List RegE := [
  ⟨0, ⟨(some 54), none, .mov (.tmp 5)⟩, []⟩,
  ⟨1, ⟨(some 55), none, .bin .geq .basic (.tmp 54) (.const (.int .i64 3))⟩, []⟩]
def r16_18 : List RegE := [
  ⟨0, ⟨(some 56), none, .mov (.tmp 3)⟩, []⟩,
  ⟨1, ⟨(some 57), none, .mov (.tmp 5)⟩, []⟩,
  ⟨2, ⟨(some 58), none, .mov (.tmp 6)⟩, []⟩,
  ⟨3, ⟨(some 59), none, .build [.int .i64 0, .int .i64 0, .int .i64 0] [(1, 1, .tmp 57), (2, 1, .tmp 58)]⟩, []⟩,
  ⟨4, ⟨(some 60), none, .newSlice 1 [.int .i64 0, .int .i64 0, .int .i64 0] [(0, 3, .tmp 59)]⟩, []⟩,
  ⟨5, ⟨(some 61), none, .append 3 24 (.tmp 56) (.tmp 60)⟩, []⟩,
  ⟨6, ⟨(some 3), none, .mov (.tmp 61)⟩, []⟩]
def r16_19 : List RegE := [
  ⟨0, ⟨(some 62), none, .mov (.tmp 4)⟩, []⟩,
  ⟨1, ⟨(some 63), none, .mov (.tmp 5)⟩, []⟩,
  ⟨2, ⟨(some 64), none, .bin .add .basic (.tmp 62) (.tmp 63)⟩, []⟩,
  ⟨3, ⟨(some 4), none, .mov (.tmp 64)⟩, []⟩]
def r16_20 : List RegE := [
  ⟨0, ⟨(some 65), none, .mov (.tmp 3)⟩, []⟩,
  ⟨1, ⟨(some 66), none, .mov (.tmp 0)⟩, []⟩,
  ⟨2, ⟨(some 67), none, .mov (.tmp 4)⟩, []⟩,
  ⟨3, ⟨(some 68), none, .idxStr (.tmp 66) (.tmp 67)⟩, []⟩,
  ⟨4, ⟨(some 69), none, .conv (.toInt .i64) (.tmp 68)⟩, []⟩,
  ⟨5, ⟨(some 70), none, .build [.int .i64 0, .int .i64 0, .int .i64 0] [(0, 1, .tmp 69)]⟩, []⟩,
  ⟨6, ⟨(some 71), none, .newSlice 1 [.int .i64 0, .int .i64 0, .int .i64 0] [(0, 3, .tmp 70)]⟩, []⟩,
  ⟨7, ⟨(some 72), none, .append 3 24 (.tmp 65) (.tmp 71)⟩, []⟩,
  ⟨8, ⟨(some 3), none, .mov (.tmp 72)⟩, []⟩]
def r16_21 : List RegE := [
  ⟨0, ⟨(some 73), none, .mov (.tmp 4)⟩, []⟩,
  ⟨1, ⟨(some 74), none, .bin .add .basic (.tmp 73) (.const (.int .i64 1))⟩, []⟩,
  ⟨2, ⟨(some 4), none, .mov (.tmp 74)⟩, []⟩]
def l16_22 : ACode := .seq (.seq (.seq (.region 4 r16_3) (.cond (.tmp 12) .skip (.exit 0))) (.seq (.block 1 (.seq (.region 1 r16_4) (.seq (.region 1 r16_5) (.seq (.seq (.region 1 r16_6) (.seq (.block 2 (.seq (.forget [0, 3, 4, 5, 6, 7]) (.loop l16_16))) (.forget [0, 3, 4, 5, 6]))) (.seq (.region 2 r16_17) (.seq (.cond (.tmp 55) (.seq (.seq (.region 7 r16_18) (.forget [0, 3, 4, 5])) (.region 4 r16_19)) (.seq (.seq (.region 9 r16_20) (.forget [0, 3, 4])) (.region 3 r16_21))) (.forget [0, 3, 4]))))))) (.forget [0, 3, 4]))) (.forget [0, 3, 4])
def r16_23 : List RegE := [
  ⟨0, ⟨(some 75), none, .mov (.tmp 3)⟩, []⟩,
  ⟨1, ⟨(some 2), none, .mov (.tmp 75)⟩, []⟩]
def k16 : List (Option (List Nat)) := [none, none, none, some [3], some [0, 3, 4], none, none, some [0, 3, 4], none, none, none, some [0, 3, 4, 5, 6], some [0, 3, 4, 5, 6, 7], some [0, 3, 4, 5, 6, 7, 19], none, some [0, 3, 4, 5, 6, 7], none, some [0, 3, 4, 5, 6, 7, 8], some [0, 3, 4, 5, 6, 7, 8], some [0, 3, 4, 5, 6, 7, 8, 46], none, none, none, none, some [0, 3, 4, 5, 6, 7], none, none, none, none, some [0, 3, 4], some [0, 3, 4, 5], none, some [0, 3, 4], none, none]
def c16 : AFunc := ⟨76, .seq (.region 1 r16_0) (.seq (.region 1 r16_1) (.seq (.region 1 r16_2) (.seq (.seq (.block 0 (.seq (.forget [0, 3, 4]) (.loop l16_22))) (.forget [3])) (.seq (.region 2 r16_23) .ret)))), [.tmp 2]⟩
theorem e16 : compFuncA Try.prog 16 k16 = some c16 := by kernel_rfl
/-! 17: vitrine/vitrinelaw04.awake -/
def r17_0 : List RegE := [
  ⟨0, ⟨(some 0), none, .mov (.const (.bool false))⟩, []⟩]
def r17_1 : List RegE := [
  ⟨0, ⟨(some 6), none, .build [.int .i64 0, .int .i64 0, .int .i64 0] [(1, 1, .const (.int .i64 3)), (2, 1, .const (.int .i64 1))]⟩, []⟩,
  ⟨1, ⟨(some 7), none, .newSlice 1 [.int .i64 0, .int .i64 0, .int .i64 0] [(0, 3, .tmp 6)]⟩, []⟩,
  ⟨2, ⟨(some 8), none, .call 18 [.tmp 7]⟩, []⟩,
  ⟨3, ⟨(some 5), none, .mov (.tmp 8)⟩, []⟩,
  ⟨4, ⟨(some 9), none, .extract (.tmp 5) 0⟩, []⟩,
  ⟨5, ⟨(some 10), none, .extract (.tmp 5) 1⟩, []⟩,
  ⟨6, ⟨(some 1), none, .mov (.tmp 9)⟩, []⟩,
  ⟨7, ⟨(some 2), none, .mov (.tmp 10)⟩, []⟩]
def r17_2 : List RegE := [
  ⟨0, ⟨(some 12), none, .build [.int .i64 0, .int .i64 0, .int .i64 0] [(1, 1, .const (.int .i64 2)), (2, 1, .const (.int .i64 1))]⟩, []⟩,
  ⟨1, ⟨(some 13), none, .newSlice 1 [.int .i64 0, .int .i64 0, .int .i64 0] [(0, 3, .tmp 12)]⟩, []⟩,
  ⟨2, ⟨(some 14), none, .call 18 [.tmp 13]⟩, []⟩,
  ⟨3, ⟨(some 11), none, .mov (.tmp 14)⟩, []⟩,
  ⟨4, ⟨(some 15), none, .extract (.tmp 11) 0⟩, []⟩,
  ⟨5, ⟨(some 16), none, .extract (.tmp 11) 1⟩, []⟩,
  ⟨6, ⟨(some 3), none, .mov (.tmp 15)⟩, []⟩,
  ⟨7, ⟨(some 4), none, .mov (.tmp 16)⟩, []⟩]
def r17_3 : List RegE := [
  ⟨0, ⟨(some 17), none, .call 15 [.const (.str ⟨#[97, 98, 99, 97, 98, 99, 97, 98]⟩)]⟩, []⟩,
  ⟨1, ⟨(some 18), none, .build [.int .i64 0, .int .i64 0, .int .i64 0] [(0, 1, .const (.int .i64 97))]⟩, []⟩,
  ⟨2, ⟨(some 19), none, .build [.int .i64 0, .int .i64 0, .int .i64 0] [(0, 1, .const (.int .i64 98))]⟩, []⟩,
  ⟨3, ⟨(some 20), none, .build [.int .i64 0, .int .i64 0, .int .i64 0] [(0, 1, .const (.int .i64 99))]⟩, []⟩,
  ⟨4, ⟨(some 21), none, .build [.int .i64 0, .int .i64 0, .int .i64 0] [(1, 1, .const (.int .i64 5)), (2, 1, .const (.int .i64 3))]⟩, []⟩,
  ⟨5, ⟨(some 22), none, .newSlice 4 (List.replicate 12 (.int .i64 0)) [(0, 3, .tmp 18), (3, 3, .tmp 19), (6, 3, .tmp 20), (9, 3, .tmp 21)]⟩, []⟩,
  ⟨6, ⟨(some 23), none, .call 14 [.tmp 17, .tmp 22]⟩, []⟩,
  ⟨7, ⟨(some 24), none, .mov (.tmp 23)⟩, []⟩,
  ⟨8, ⟨(some 25), (some (24, true)), .call 15 [.const (.str ⟨#[97, 97, 97, 97]⟩)]⟩, []⟩,
  ⟨9, ⟨(some 26), (some (24, true)), .build [.int .i64 0, .int .i64 0, .int .i64 0] [(0, 1, .const (.int .i64 97))]⟩, []⟩,
  ⟨10, ⟨(some 27), (some (24, true)), .build [.int .i64 0, .int .i64 0, .int .i64 0] [(1, 1, .const (.int .i64 3)), (2, 1, .const (.int .i64 1))]⟩, []⟩,
  ⟨11, ⟨(some 28), (some (24, true)), .newSlice 2 [.int .i64 0, .int .i64 0, .int .i64 0, .int .i64 0, .int .i64 0, .int .i64 0] [(0, 3, .tmp 26), (3, 3, .tmp 27)]⟩, []⟩,
  ⟨12, ⟨(some 29), (some (24, true)), .call 14 [.tmp 25, .tmp 28]⟩, []⟩,
  ⟨13, ⟨(some 30), none, .pick (.tmp 24) (.tmp 29) (.const (.bool false))⟩, []⟩,
  ⟨14, ⟨(some 31), none, .mov (.tmp 30)⟩, []⟩,
  ⟨15, ⟨(some 32), (some (31, true)), .mov (.tmp 2)⟩, []⟩,
  ⟨16, ⟨(some 33), (some (31, true)), .bin .eql .basic (.tmp 32) (.const (.int .i64 15))⟩, []⟩,
  ⟨17, ⟨(some 34), none, .pick (.tmp 31) (.tmp 33) (.const (.bool false))⟩, []⟩,
  ⟨18, ⟨(some 35), none, .mov (.tmp 34)⟩, []⟩,
  ⟨19, ⟨(some 36), (some (35, true)), .mov (.tmp 4)⟩, []⟩,
  ⟨20, ⟨(some 37), (some (35, true)), .bin .eql .basic (.tmp 36) (.const (.int .i64 1))⟩, []⟩,
  ⟨21, ⟨(some 38), none, .pick (.tmp 35) (.tmp 37) (.const (.bool false))⟩, []⟩,
  ⟨22, ⟨(some 0), none, .mov (.tmp 38)⟩, []⟩]
def k17 : List (Option (List Nat)) := [none, some [2], some [2, 4], some [0]]
def c17 : AFunc := ⟨39, .seq (.region 1 r17_0) (.seq (.seq (.region 8 r17_1) (.forget [2])) (.seq (.seq (.region 8 r17_2) (.forget [2, 4])) (.seq (.seq (.region 23 r17_3) (.forget [0])) .ret))), [.tmp 0]⟩
theorem e17 : compFuncA Try.prog 17 k17 = some c17 := by kernel_rfl
/-! 18: vitrine/lz.Expand -/
def r18_0 : List RegE := [
  ⟨0, ⟨(some 2), none, .mov (.const (.str ⟨#[]⟩))⟩, []⟩,
  ⟨1, ⟨(some 3), none, .mov (.const (.int .i64 0))⟩, []⟩]
def r18_1 : List RegE := [
  ⟨0, ⟨(some 4), none, .mov (.const .nils)⟩, []⟩]
def r18_2 : List RegE := [
  ⟨0, ⟨(some 7), none, .mov (.tmp 0)⟩, []⟩,
  ⟨1, ⟨(some 8), none, .len false (.tmp 7)⟩, []⟩,
  ⟨2, ⟨(some 9), none, .mov (.const (.int .i64 0))⟩, []⟩]
def r18_3 : List RegE := [
  ⟨0, ⟨(some 10), none, .bin .lss .basic (.tmp 9) (.tmp 8)⟩, []⟩]
def r18_4 : List RegE := [
  ⟨0, ⟨(some 11), none, .iaddrS 3 (.tmp 7) (.tmp 9)⟩, []⟩,
  ⟨1, ⟨(some 12), none, .load (some 3) (.tmp 11)⟩, []⟩,
  ⟨2, ⟨(some 6), none, .alloc [.int .i64 0, .int .i64 0, .int .i64 0]⟩, []⟩,
  ⟨3, ⟨none, none, .store 3 (.tmp 6) (.tmp 12)⟩, []⟩]
def r18_5 : List RegE := [
  ⟨0, ⟨(some 30), none, .load (some 3) (.tmp 6)⟩, []⟩,
  ⟨1, ⟨(some 31), none, .faddr 0 (.tmp 6)⟩, []⟩,
  ⟨2, ⟨(some 32), none, .load none (.tmp 31)⟩, []⟩,
  ⟨3, ⟨(some 33), none, .build [.int .i64 0, .int .i64 0, .int .i64 0] [(0, 1, .tmp 32)]⟩, []⟩,
  ⟨4, ⟨(some 34), none, .bin .eql (.flat [(0, 1), (1, 1), (2, 1)]) (.tmp 30) (.tmp 33)⟩, []⟩,
  ⟨5, ⟨(some 35), none, .mov (.tmp 34)⟩, []⟩,
  ⟨6, ⟨(some 36), (some (35, true)), .faddr 0 (.tmp 6)⟩, []⟩,
  ⟨7, ⟨(some 37), (some (35, true)), .load none (.tmp 36)⟩, []⟩,
  ⟨8, ⟨(some 38), (some (35, true)), .bin .geq .basic (.tmp 37) (.const (.int .i64 0))⟩, []⟩,
  ⟨9, ⟨(some 39), none, .pick (.tmp 35) (.tmp 38) (.const (.bool false))⟩, []⟩,
  ⟨10, ⟨(some 40), none, .mov (.tmp 39)⟩, []⟩,
  ⟨11, ⟨(some 41), (some (40, true)), .faddr 0 (.tmp 6)⟩, []⟩,
  ⟨12, ⟨(some 42), (some (40, true)), .load none (.tmp 41)⟩, []⟩,
  ⟨13, ⟨(some 43), (some (40, true)), .bin .lss .basic (.tmp 42) (.const (.int .i64 256))⟩, []⟩,
  ⟨14, ⟨(some 44), none, .pick (.tmp 40) (.tmp 43) (.const (.bool false))⟩, []⟩,
  ⟨15, ⟨(some 29), none, .mov (.tmp 44)⟩, []⟩]
def r18_6 : List RegE := [
  ⟨0, ⟨(some 45), none, .mov (.tmp 4)⟩, []⟩,
  ⟨1, ⟨(some 46), none, .faddr 0 (.tmp 6)⟩, []⟩,
  ⟨2, ⟨(some 47), none, .load none (.tmp 46)⟩, []⟩,
  ⟨3, ⟨(some 48), none, .conv (.toInt .u8) (.tmp 47)⟩, []⟩,
  ⟨4, ⟨(some 49), none, .newSlice 1 [.int .u8 0] [(0, 1, .tmp 48)]⟩, []⟩,
  ⟨5, ⟨(some 50), none, .append 1 1 (.tmp 45) (.tmp 49)⟩, []⟩,
  ⟨6, ⟨(some 4), none, .mov (.tmp 50)⟩, []⟩]
def r18_7 : List RegE := [
  ⟨0, ⟨(some 52), none, .faddr 0 (.tmp 6)⟩, []⟩,
  ⟨1, ⟨(some 53), none, .load none (.tmp 52)⟩, []⟩,
  ⟨2, ⟨(some 54), none, .bin .neq .basic (.tmp 53) (.const (.int .i64 0))⟩, []⟩,
  ⟨3, ⟨(some 55), none, .mov (.tmp 54)⟩, []⟩,
  ⟨4, ⟨(some 56), (some (55, false)), .faddr 1 (.tmp 6)⟩, []⟩,
  ⟨5, ⟨(some 57), (some (55, false)), .load none (.tmp 56)⟩, []⟩,
  ⟨6, ⟨(some 58), (some (55, false)), .bin .lss .basic (.tmp 57) (.const (.int .i64 3))⟩, []⟩,
  ⟨7, ⟨(some 59), none, .pick (.tmp 55) (.const (.bool true)) (.tmp 58)⟩, []⟩,
  ⟨8, ⟨(some 60), none, .mov (.tmp 59)⟩, []⟩,
  ⟨9, ⟨(some 61), (some (60, false)), .faddr 1 (.tmp 6)⟩, []⟩,
  ⟨10, ⟨(some 62), (some (60, false)), .load none (.tmp 61)⟩, []⟩,
  ⟨11, ⟨(some 63), (some (60, false)), .bin .gtr .basic (.tmp 62) (.const (.int .i64 258))⟩, []⟩,
  ⟨12, ⟨(some 64), none, .pick (.tmp 60) (.const (.bool true)) (.tmp 63)⟩, []⟩,
  ⟨13, ⟨(some 65), none, .mov (.tmp 64)⟩, []⟩,
  ⟨14, ⟨(some 66), (some (65, false)), .faddr 2 (.tmp 6)⟩, []⟩,
  ⟨15, ⟨(some 67), (some (65, false)), .load none (.tmp 66)⟩, []⟩,
  ⟨16, ⟨(some 68), (some (65, false)), .bin .lss .basic (.tmp 67) (.const (.int .i64 1))⟩, []⟩,
  ⟨17, ⟨(some 69), none, .pick (.tmp 65) (.const (.bool true)) (.tmp 68)⟩, []⟩,
  ⟨18, ⟨(some 70), none, .mov (.tmp 69)⟩, []⟩,
  ⟨19, ⟨(some 71), (some (70, false)), .faddr 2 (.tmp 6)⟩, []⟩,
  ⟨20, ⟨(some 72), (some (70, false)), .load none (.tmp 71)⟩, []⟩,
  ⟨21, ⟨(some 73), (some (70, false)), .bin .gtr .basic (.tmp 72) (.const (.int .i64 32768))⟩, []⟩,
  ⟨22, ⟨(some 74), none, .pick (.tmp 70) (.const (.bool true)) (.tmp 73)⟩, []⟩,
  ⟨23, ⟨(some 51), none, .mov (.tmp 74)⟩, []⟩]
def r18_8 : List RegE := [
  ⟨0, ⟨(some 2), none, .mov (.const (.str ⟨#[]⟩))⟩, []⟩,
  ⟨1, ⟨(some 3), none, .mov (.const (.int .i64 1))⟩, []⟩]
def r18_9 : List RegE := [
  ⟨0, ⟨(some 76), none, .faddr 2 (.tmp 6)⟩, []⟩,
  ⟨1, ⟨(some 77), none, .load none (.tmp 76)⟩, []⟩,
  ⟨2, ⟨(some 78), none, .mov (.tmp 4)⟩, []⟩,
  ⟨3, ⟨(some 79), none, .len false (.tmp 78)⟩, []⟩,
  ⟨4, ⟨(some 80), none, .bin .gtr .basic (.tmp 77) (.tmp 79)⟩, []⟩,
  ⟨5, ⟨(some 75), none, .mov (.tmp 80)⟩, []⟩]
def r18_10 : List RegE := [
  ⟨0, ⟨(some 2), none, .mov (.const (.str ⟨#[]⟩))⟩, []⟩,
  ⟨1, ⟨(some 3), none, .mov (.const (.int .i64 15))⟩, []⟩]
def r18_11 : List RegE := [
  ⟨0, ⟨(some 13), none, .faddr 1 (.tmp 6)⟩, []⟩,
  ⟨1, ⟨(some 14), none, .load none (.tmp 13)⟩, []⟩,
  ⟨2, ⟨(some 15), none, .mov (.const (.int .i64 0))⟩, []⟩]
def r18_12 : List RegE := [
  ⟨0, ⟨(some 16), none, .bin .lss .basic (.tmp 15) (.tmp 14)⟩, []⟩]
def r18_13 : List RegE := [
  ⟨0, ⟨(some 17), none, .mov (.tmp 4)⟩, []⟩,
  ⟨1, ⟨(some 18), none, .mov (.tmp 4)⟩, []⟩,
  ⟨2, ⟨(some 19), none, .mov (.tmp 4)⟩, []⟩,
  ⟨3, ⟨(some 20), none, .len false (.tmp 19)⟩, []⟩,
  ⟨4, ⟨(some 21), none, .faddr 2 (.tmp 6)⟩, []⟩,
  ⟨5, ⟨(some 22), none, .load none (.tmp 21)⟩, []⟩,
  ⟨6, ⟨(some 23), none, .bin .sub .basic (.tmp 20) (.tmp 22)⟩, []⟩,
  ⟨7, ⟨(some 24), none, .iaddrS 1 (.tmp 18) (.tmp 23)⟩, []⟩,
  ⟨8, ⟨(some 25), none, .load none (.tmp 24)⟩, []⟩,
  ⟨9, ⟨(some 26), none, .newSlice 1 [.int .u8 0] [(0, 1, .tmp 25)]⟩, []⟩,
  ⟨10, ⟨(some 27), none, .append 1 1 (.tmp 17) (.tmp 26)⟩, []⟩,
  ⟨11, ⟨(some 4), none, .mov (.tmp 27)⟩, []⟩]
def r18_14 : List RegE := [
  ⟨0, ⟨(some 28), none, .bin .add .basic (.tmp 15) (.const (.int .i64 1))⟩, []⟩,
  ⟨1, ⟨(some 15), none, .mov (.tmp 28)⟩, []⟩]
def l18_15 : ACode := .seq (.seq (.region 1 r18_12) (.seq (.cond (.tmp 16) .skip (.exit 3)) (.seq (.block 4 (.seq (.region 12 r18_13) (.forget [4, 6, 7, 8, 9, 14, 15]))) (.region 2 r18_14)))) (.forget [4, 6, 7, 8, 9, 14, 15])
def r18_16 : List RegE := [
  ⟨0, ⟨(some 81), none, .bin .add .basic (.tmp 9) (.const (.int .i64 1))⟩, []⟩,
  ⟨1, ⟨(some 9), none, .mov (.tmp 81)⟩, []⟩]
def l18_17 : ACode := .seq (.seq (.region 1 r18_3) (.seq (.cond (.tmp 10) .skip (.exit 0)) (.seq (.seq (.block 1 (.seq (.region 4 r18_4) (.seq (.block 2 (.seq (.seq (.region 16 r18_5) (.forget [4, 6, 7, 8, 9, 29])) (.seq (.cond (.tmp 29) (.seq (.region 7 r18_6) (.forget [4, 7, 8, 9])) (.seq (.seq (.region 24 r18_7) (.forget [4, 6, 7, 8, 9, 51])) (.cond (.tmp 51) (.seq (.region 2 r18_8) .ret) (.seq (.seq (.region 6 r18_9) (.forget [4, 6, 7, 8, 9, 75])) (.cond (.tmp 75) (.seq (.region 2 r18_10) .ret) (.seq (.region 3 r18_11) (.seq (.block 3 (.seq (.forget [4, 6, 7, 8, 9, 14, 15]) (.loop l18_15))) (.forget [4, 7, 8, 9])))))))) (.forget [4, 7, 8, 9])))) (.forget [4, 7, 8, 9])))) (.forget [4, 7, 8, 9])) (.region 2 r18_16)))) (.forget [4, 7, 8, 9])
def r18_18 : List RegE := [
  ⟨0, ⟨(some 82), none, .mov (.tmp 4)⟩, []⟩,
  ⟨1, ⟨(some 83), none, .conv .bytesStr (.tmp 82)⟩, []⟩,
  ⟨2, ⟨(some 2), none, .mov (.tmp 83)⟩, []⟩,
  ⟨3, ⟨(some 3), none, .mov (.const (.int .i64 0))⟩, []⟩]
def k18 : List (Option (List Nat)) := [none, none, none, some [4], some [4, 7, 8, 9], none, none, some [4, 7, 8, 9], none, some [4, 7, 8, 9], some [4, 6, 7, 8, 9, 29], some [4, 7, 8, 9], some [4, 7, 8, 9], some [4, 6, 7, 8, 9, 51], none, none, some [4, 6, 7, 8, 9, 75], none, none, none, some [4, 7, 8, 9], some [4, 6, 7, 8, 9, 14, 15], none, none, none, some [4, 6, 7, 8, 9, 14, 15], none, none, none]
def c18 : AFunc := ⟨84, .seq (.region 2 r18_0) (.seq (.region 1 r18_1) (.seq (.seq (.region 3 r18_2) (.seq (.block 0 (.seq (.forget [4, 7, 8, 9]) (.loop l18_17))) (.forget [4]))) (.seq (.region 4 r18_18) .ret))), [.tmp 2, .tmp 3]⟩
theorem e18 : compFuncA Try.prog 18 k18 = some c18 := by kernel_rfl
/-! 19: vitrine/vitrineref04.Expand -/
def r19_0 : List RegE := [
  ⟨0, ⟨(some 2), none, .mov (.const (.str ⟨#[]⟩))⟩, []⟩,
  ⟨1, ⟨(some 3), none, .mov (.const (.int .i64 0))⟩, []⟩]
def r19_1 : List RegE := [
  ⟨0, ⟨(some 4), none, .mov (.const .nils)⟩, []⟩]
def r19_2 : List RegE := [
  ⟨0, ⟨(some 5), none, .mov (.const (.int .i64 0))⟩, []⟩]
def r19_3 : List RegE := [
  ⟨0, ⟨(some 8), none, .mov (.tmp 5)⟩, []⟩,
  ⟨1, ⟨(some 9), none, .mov (.tmp 0)⟩, []⟩,
  ⟨2, ⟨(some 10), none, .len false (.tmp 9)⟩, []⟩,
  ⟨3, ⟨(some 11), none, .bin .lss .basic (.tmp 8) (.tmp 10)⟩, []⟩]
def r19_4 : List RegE := [
  ⟨0, ⟨(some 14), none, .mov (.tmp 0)⟩, []⟩,
  ⟨1, ⟨(some 15), none, .mov (.tmp 5)⟩, []⟩,
  ⟨2, ⟨(some 16), none, .iaddrS 3 (.tmp 14) (.tmp 15)⟩, []⟩,
  ⟨3, ⟨(some 17), none, .load (some 3) (.tmp 16)⟩, []⟩,
  ⟨4, ⟨(some 6), none, .alloc [.int .i64 0, .int .i64 0, .int .i64 0]⟩, []⟩,
  ⟨5, ⟨none, none, .store 3 (.tmp 6) (.tmp 17)⟩, []⟩]
def r19_5 : List RegE := [
  ⟨0, ⟨(some 18), none, .load (some 3) (.tmp 6)⟩, []⟩,
  ⟨1, ⟨(some 19), none, .call 20 [.tmp 18]⟩, []⟩,
  ⟨2, ⟨(some 20), none, .un .not (.tmp 19)⟩, []⟩]
def r19_6 : List RegE := [
  ⟨0, ⟨(some 2), none, .mov (.const (.str ⟨#[]⟩))⟩, []⟩,
  ⟨1, ⟨(some 3), none, .mov (.const (.int .i64 1))⟩, []⟩]
def r19_7 : List RegE := [
  ⟨0, ⟨(some 21), none, .faddr 1 (.tmp 6)⟩, []⟩,
  ⟨1, ⟨(some 22), none, .load none (.tmp 21)⟩, []⟩,
  ⟨2, ⟨(some 23), none, .bin .eql .basic (.tmp 22) (.const (.int .i64 0))⟩, []⟩]
def r19_8 : List RegE := [
  ⟨0, ⟨(some 24), none, .mov (.tmp 4)⟩, []⟩,
  ⟨1, ⟨(some 25), none, .faddr 0 (.tmp 6)⟩, []⟩,
  ⟨2, ⟨(some 26), none, .load none (.tmp 25)⟩, []⟩,
  ⟨3, ⟨(some 27), none, .conv (.toInt .u8) (.tmp 26)⟩, []⟩,
  ⟨4, ⟨(some 28), none, .newSlice 1 [.int .u8 0] [(0, 1, .tmp 27)]⟩, []⟩,
  ⟨5, ⟨(some 29), none, .append 1 1 (.tmp 24) (.tmp 28)⟩, []⟩,
  ⟨6, ⟨(some 4), none, .mov (.tmp 29)⟩, []⟩]
def r19_9 : List RegE := [
  ⟨0, ⟨(some 30), none, .faddr 2 (.tmp 6)⟩, []⟩,
  ⟨1, ⟨(some 31), none, .load none (.tmp 30)⟩, []⟩,
  ⟨2, ⟨(some 32), none, .mov (.tmp 4)⟩, []⟩,
  ⟨3, ⟨(some 33), none, .len false (.tmp 32)⟩, []⟩,
  ⟨4, ⟨(some 34), none, .bin .gtr .basic (.tmp 31) (.tmp 33)⟩, []⟩]
def r19_10 : List RegE := [
  ⟨0, ⟨(some 2), none, .mov (.const (.str ⟨#[]⟩))⟩, []⟩,
  ⟨1, ⟨(some 3), none, .mov (.const (.int .i64 15))⟩, []⟩]
def r19_11 : List RegE := [
  ⟨0, ⟨(some 7), none, .mov (.const (.int .i64 0))⟩, []⟩]
def r19_12 : List RegE := [
  ⟨0, ⟨(some 35), none, .mov (.tmp 7)⟩, []⟩,
  ⟨1, ⟨(some 36), none, .faddr 1 (.tmp 6)⟩, []⟩,
  ⟨2, ⟨(some 37), none, .load none (.tmp 36)⟩, []⟩,
  ⟨3, ⟨(some 38), none, .bin .lss .basic (.tmp 35) (.tmp 37)⟩, []⟩]
def r19_13 : List RegE := [
  ⟨0, ⟨(some 41), none, .mov (.tmp 4)⟩, []⟩,
  ⟨1, ⟨(some 42), none, .mov (.tmp 4)⟩, []⟩,
  ⟨2, ⟨(some 43), none, .mov (.tmp 4)⟩, []⟩,
  ⟨3, ⟨(some 44), none, .len false (.tmp 43)⟩, []⟩,
  ⟨4, ⟨(some 45), none, .faddr 2 (.tmp 6)⟩, []⟩,
  ⟨5, ⟨(some 46), none, .load none (.tmp 45)⟩, []⟩,
  ⟨6, ⟨(some 47), none, .bin .sub .basic (.tmp 44) (.tmp 46)⟩, []⟩,
  ⟨7, ⟨(some 48), none, .iaddrS 1 (.tmp 42) (.tmp 47)⟩, []⟩,
  ⟨8, ⟨(some 49), none, .load none (.tmp 48)⟩, []⟩,
  ⟨9, ⟨(some 50), none, .newSlice 1 [.int .u8 0] [(0, 1, .tmp 49)]⟩, []⟩,
  ⟨10, ⟨(some 51), none, .append 1 1 (.tmp 41) (.tmp 50)⟩, []⟩,
  ⟨11, ⟨(some 4), none, .mov (.tmp 51)⟩, []⟩]
def r19_14 : List RegE := [
  ⟨0, ⟨(some 39), none, .mov (.tmp 7)⟩, []⟩,
  ⟨1, ⟨(some 40), none, .bin .add .basic (.tmp 39) (.const (.int .i64 1))⟩, []⟩,
  ⟨2, ⟨(some 7), none, .mov (.tmp 40)⟩, []⟩]
def l19_15 : ACode := .seq (.seq (.seq (.region 4 r19_12) (.cond (.tmp 38) .skip (.exit 2))) (.seq (.block 3 (.seq (.region 12 r19_13) (.forget [0, 4, 5, 6, 7]))) (.region 3 r19_14))) (.forget [0, 4, 5, 6, 7])
def r19_16 : List RegE := [
  ⟨0, ⟨(some 12), none, .mov (.tmp 5)⟩, []⟩,
  ⟨1, ⟨(some 13), none, .bin .add .basic (.tmp 12) (.const (.int .i64 1))⟩, []⟩,
  ⟨2, ⟨(some 5), none, .mov (.tmp 13)⟩, []⟩]
def l19_17 : ACode := .seq (.seq (.seq (.region 4 r19_3) (.cond (.tmp 11) .skip (.exit 0))) (.seq (.seq (.block 1 (.seq (.seq (.region 6 r19_4) (.forget [0, 4, 5, 6])) (.seq (.seq (.region 3 r19_5) (.cond (.tmp 20) (.seq (.region 2 r19_6) .ret) .skip)) (.seq (.seq (.region 3 r19_7) (.cond (.tmp 23) (.seq (.seq (.region 7 r19_8) (.forget [0, 4, 5])) (.exit 1)) .skip)) (.seq (.seq (.seq (.region 5 r19_9) (.forget [0, 4, 5, 6, 34])) (.cond (.tmp 34) (.seq (.region 2 r19_10) .ret) .skip)) (.seq (.region 1 r19_11) (.seq (.block 2 (.seq (.forget [0, 4, 5, 6, 7]) (.loop l19_15))) (.forget [0, 4, 5])))))))) (.forget [0, 4, 5])) (.region 3 r19_16))) (.forget [0, 4, 5])
def r19_18 : List RegE := [
  ⟨0, ⟨(some 52), none, .mov (.tmp 4)⟩, []⟩,
  ⟨1, ⟨(some 53), none, .conv .bytesStr (.tmp 52)⟩, []⟩,
  ⟨2, ⟨(some 2), none, .mov (.tmp 53)⟩, []⟩,
  ⟨3, ⟨(some 3), none, .mov (.const (.int .i64 0))⟩, []⟩]
def k19 : List (Option (List Nat)) := [none, none, none, some [4], some [0, 4, 5], none, none, some [0, 4, 5], some [0, 4, 5, 6], none, none, none, none, none, some [0, 4, 5], some [0, 4, 5, 6, 34], none, none, none, some [0, 4, 5], some [0, 4, 5, 6, 7], none, none, none, some [0, 4, 5, 6, 7], none, none, none]
def c19 : AFunc := ⟨54, .seq (.region 2 r19_0) (.seq (.region 1 r19_1) (.seq (.seq (.region 1 r19_2) (.seq (.block 0 (.seq (.forget [0, 4, 5]) (.loop l19_17))) (.forget [4]))) (.seq (.region 4 r19_18) .ret))), [.tmp 2, .tmp 3]⟩
theorem e19 : compFuncA Try.prog 19 k19 = some c19 := by kernel_rfl
/-! 20: vitrine/vitrineref04.Right -/
def r20_0 : List RegE := [
  ⟨0, ⟨(some 1), none, .box (.tmp 0)⟩, []⟩,
  ⟨1, ⟨(some 2), none, .mov (.const (.bool false))⟩, []⟩]
def r20_1 : List RegE := [
  ⟨0, ⟨(some 3), none, .faddr 1 (.tmp 1)⟩, []⟩,
  ⟨1, ⟨(some 4), none, .load none (.tmp 3)⟩, []⟩,
  ⟨2, ⟨(some 5), none, .bin .eql .basic (.tmp 4) (.const (.int .i64 0))⟩, []⟩]
def r20_2 : List RegE := [
  ⟨0, ⟨(some 6), none, .faddr 2 (.tmp 1)⟩, []⟩,
  ⟨1, ⟨(some 7), none, .load none (.tmp 6)⟩, []⟩,
  ⟨2, ⟨(some 8), none, .bin .eql .basic (.tmp 7) (.const (.int .i64 0))⟩, []⟩,
  ⟨3, ⟨(some 9), none, .mov (.tmp 8)⟩, []⟩,
  ⟨4, ⟨(some 10), (some (9, true)), .faddr 0 (.tmp 1)⟩, []⟩,
  ⟨5, ⟨(some 11), (some (9, true)), .load none (.tmp 10)⟩, []⟩,
  ⟨6, ⟨(some 12), (some (9, true)), .bin .geq .basic (.tmp 11) (.const (.int .i64 0))⟩, []⟩,
  ⟨7, ⟨(some 13), none, .pick (.tmp 9) (.tmp 12) (.const (.bool false))⟩, []⟩,
  ⟨8, ⟨(some 14), none, .mov (.tmp 13)⟩, []⟩,
  ⟨9, ⟨(some 15), (some (14, true)), .faddr 0 (.tmp 1)⟩, []⟩,
  ⟨10, ⟨(some 16), (some (14, true)), .load none (.tmp 15)⟩, []⟩,
  ⟨11, ⟨(some 17), (some (14, true)), .bin .leq .basic (.tmp 16) (.const (.int .i64 255))⟩, []⟩,
  ⟨12, ⟨(some 18), none, .pick (.tmp 14) (.tmp 17) (.const (.bool false))⟩, []⟩,
  ⟨13, ⟨(some 2), none, .mov (.tmp 18)⟩, []⟩]
def r20_3 : List RegE := [
  ⟨0, ⟨(some 19), none, .faddr 0 (.tmp 1)⟩, []⟩,
  ⟨1, ⟨(some 20), none, .load none (.tmp 19)⟩, []⟩,
  ⟨2, ⟨(some 21), none, .bin .eql .basic (.tmp 20) (.const (.int .i64 0))⟩, []⟩,
  ⟨3, ⟨(some 22), none, .mov (.tmp 21)⟩, []⟩,
  ⟨4, ⟨(some 23), (some (22, true)), .faddr 1 (.tmp 1)⟩, []⟩,
  ⟨5, ⟨(some 24), (some (22, true)), .load none (.tmp 23)⟩, []⟩,
  ⟨6, ⟨(some 25), (some (22, true)), .bin .geq .basic (.tmp 24) (.const (.int .i64 3))⟩, []⟩,
  ⟨7, ⟨(some 26), none, .pick (.tmp 22) (.tmp 25) (.const (.bool false))⟩, []⟩,
  ⟨8, ⟨(some 27), none, .mov (.tmp 26)⟩, []⟩,
  ⟨9, ⟨(some 28), (some (27, true)), .faddr 1 (.tmp 1)⟩, []⟩,
  ⟨10, ⟨(some 29), (some (27, true)), .load none (.tmp 28)⟩, []⟩,
  ⟨11, ⟨(some 30), (some (27, true)), .bin .leq .basic (.tmp 29) (.const (.int .i64 258))⟩, []⟩,
  ⟨12, ⟨(some 31), none, .pick (.tmp 27) (.tmp 30) (.const (.bool false))⟩, []⟩,
  ⟨13, ⟨(some 32), none, .mov (.tmp 31)⟩, []⟩,
  ⟨14, ⟨(some 33), (some (32, true)), .faddr 2 (.tmp 1)⟩, []⟩,
  ⟨15, ⟨(some 34), (some (32, true)), .load none (.tmp 33)⟩, []⟩,
  ⟨16, ⟨(some 35), (some (32, true)), .bin .geq .basic (.tmp 34) (.const (.int .i64 1))⟩, []⟩,
  ⟨17, ⟨(some 36), none, .pick (.tmp 32) (.tmp 35) (.const (.bool false))⟩, []⟩,
  ⟨18, ⟨(some 37), none, .mov (.tmp 36)⟩, []⟩,
  ⟨19, ⟨(some 38), (some (37, true)), .faddr 2 (.tmp 1)⟩, []⟩,
  ⟨20, ⟨(some 39), (some (37, true)), .load none (.tmp 38)⟩, []⟩,
  ⟨21, ⟨(some 40), (some (37, true)), .bin .leq .basic (.tmp 39) (.const (.int .i64 32768))⟩, []⟩,
  ⟨22, ⟨(some 41), none, .pick (.tmp 37) (.tmp 40) (.const (.bool false))⟩, []⟩,
  ⟨23, ⟨(some 2), none, .mov (.tmp 41)⟩, []⟩]
def k20 : List (Option (List Nat)) := [none, none, none, some [2], some [2]]
def c20 : AFunc := ⟨42, .seq (.region 2 r20_0) (.seq (.seq (.region 3 r20_1) (.cond (.tmp 5) (.seq (.seq (.region 14 r20_2) (.forget [2])) .ret) .skip)) (.seq (.seq (.region 24 r20_3) (.forget [2])) .ret)), [.tmp 2]⟩
theorem e20 : compFuncA Try.prog 20 k20 = some c20 := by kernel_rfl
/-! 21: vitrine/bits.Crc -/
def r21_0 : List RegE := [
  ⟨0, ⟨(some 2), none, .mov (.const (.int .i64 0))⟩, []⟩]
def r21_1 : List RegE := [
  ⟨0, ⟨(some 3), none, .mov (.const (.int .i64 4294967295))⟩, []⟩]
def r21_2 : List RegE := [
  ⟨0, ⟨(some 5), none, .mov (.tmp 0)⟩, []⟩,
  ⟨1, ⟨(some 6), none, .len true (.tmp 5)⟩, []⟩,
  ⟨2, ⟨(some 7), none, .mov (.const (.int .i64 0))⟩, []⟩]
def r21_3 : List RegE := [
  ⟨0, ⟨(some 8), none, .bin .lss .basic (.tmp 7) (.tmp 6)⟩, []⟩]
def r21_4 : List RegE := [
  ⟨0, ⟨(some 9), none, .mov (.tmp 7)⟩, []⟩,
  ⟨1, ⟨(some 4), none, .mov (.tmp 9)⟩, []⟩]
def r21_5 : List RegE := [
  ⟨0, ⟨(some 10), none, .mov (.tmp 3)⟩, []⟩,
  ⟨1, ⟨(some 11), none, .mov (.tmp 0)⟩, []⟩,
  ⟨2, ⟨(some 12), none, .mov (.tmp 4)⟩, []⟩,
  ⟨3, ⟨(some 13), none, .idxStr (.tmp 11) (.tmp 12)⟩, []⟩,
  ⟨4, ⟨(some 14), none, .conv (.toInt .i64) (.tmp 13)⟩, []⟩,
  ⟨5, ⟨(some 15), none, .bin .xor .basic (.tmp 10) (.tmp 14)⟩, []⟩,
  ⟨6, ⟨(some 3), none, .mov (.tmp 15)⟩, []⟩]
def r21_6 : List RegE := [
  ⟨0, ⟨(some 16), none, .mov (.const (.int .i64 0))⟩, []⟩]
def r21_7 : List RegE := [
  ⟨0, ⟨(some 17), none, .bin .lss .basic (.tmp 16) (.const (.int .i64 8))⟩, []⟩]
def r21_8 : List RegE := [
  ⟨0, ⟨(some 18), none, .mov (.tmp 3)⟩, []⟩,
  ⟨1, ⟨(some 19), none, .bin .shr .basic (.tmp 18) (.const (.int .u64 1))⟩, []⟩,
  ⟨2, ⟨(some 20), none, .mov (.tmp 3)⟩, []⟩,
  ⟨3, ⟨(some 21), none, .bin .and .basic (.tmp 20) (.const (.int .i64 1))⟩, []⟩,
  ⟨4, ⟨(some 22), none, .bin .mul .basic (.const (.int .i64 3988292384)) (.tmp 21)⟩, []⟩,
  ⟨5, ⟨(some 23), none, .bin .xor .basic (.tmp 19) (.tmp 22)⟩, []⟩,
  ⟨6, ⟨(some 3), none, .mov (.tmp 23)⟩, []⟩]
def r21_9 : List RegE := [
  ⟨0, ⟨(some 24), none, .bin .add .basic (.tmp 16) (.const (.int .i64 1))⟩, []⟩,
  ⟨1, ⟨(some 16), none, .mov (.tmp 24)⟩, []⟩]
def l21_10 : ACode := .seq (.seq (.region 1 r21_7) (.seq (.cond (.tmp 17) .skip (.exit 2)) (.seq (.block 3 (.seq (.region 7 r21_8) (.forget [0, 3, 6, 7, 16]))) (.region 2 r21_9)))) (.forget [0, 3, 6, 7, 16])
def r21_11 : List RegE := [
  ⟨0, ⟨(some 25), none, .bin .add .basic (.tmp 7) (.const (.int .i64 1))⟩, []⟩,
  ⟨1, ⟨(some 7), none, .mov (.tmp 25)⟩, []⟩]
def l21_12 : ACode := .seq (.seq (.region 1 r21_3) (.seq (.cond (.tmp 8) .skip (.exit 0)) (.seq (.seq (.block 1 (.seq (.region 2 r21_4) (.seq (.seq (.region 7 r21_5) (.forget [0, 3, 6, 7])) (.seq (.region 1 r21_6) (.seq (.block 2 (.seq (.forget [0, 3, 6, 7, 16]) (.loop l21_10))) (.forget [0, 3, 6, 7])))))) (.forget [0, 3, 6, 7])) (.region 2 r21_11)))) (.forget [0, 3, 6, 7])
def r21_13 : List RegE := [
  ⟨0, ⟨(some 26), none, .mov (.tmp 3)⟩, []⟩,
  ⟨1, ⟨(some 27), none, .bin .xor .basic (.tmp 26) (.const (.int .i64 4294967295))⟩, []⟩,
  ⟨2, ⟨(some 2), none, .mov (.tmp 27)⟩, []⟩]
def k21 : List (Option (List Nat)) := [none, none, none, some [3], some [0, 3, 6, 7], none, none, some [0, 3, 6, 7], none, some [0, 3, 6, 7], none, some [0, 3, 6, 7], some [0, 3, 6, 7, 16], none, none, none, some [0, 3, 6, 7, 16], none, none, none]
def c21 : AFunc := ⟨28, .seq (.region 1 r21_0) (.seq (.region 1 r21_1) (.seq (.seq (.region 3 r21_2) (.seq (.block 0 (.seq (.forget [0, 3, 6, 7]) (.loop l21_12))) (.forget [3]))) (.seq (.region 3 r21_13) .ret))), [.tmp 2]⟩
theorem e21 : compFuncA Try.prog 21 k21 = some c21 := by kernel_rfl
/-! 22: vitrine/vitrineref01.Crc -/
def r22_0 : List RegE := [
  ⟨0, ⟨(some 2), none, .mov (.const (.int .i64 0))⟩, []⟩]
def r22_1 : List RegE := [
  ⟨0, ⟨(some 3), none, .mov (.const (.int .i64 4294967295))⟩, []⟩]
def r22_2 : List RegE := [
  ⟨0, ⟨(some 4), none, .mov (.const (.int .i64 0))⟩, []⟩]
def r22_3 : List RegE := [
  ⟨0, ⟨(some 7), none, .mov (.tmp 4)⟩, []⟩,
  ⟨1, ⟨(some 8), none, .mov (.tmp 0)⟩, []⟩,
  ⟨2, ⟨(some 9), none, .len true (.tmp 8)⟩, []⟩,
  ⟨3, ⟨(some 10), none, .bin .lss .basic (.tmp 7) (.tmp 9)⟩, []⟩]
def r22_4 : List RegE := [
  ⟨0, ⟨(some 13), none, .mov (.tmp 3)⟩, []⟩,
  ⟨1, ⟨(some 14), none, .mov (.tmp 0)⟩, []⟩,
  ⟨2, ⟨(some 15), none, .mov (.tmp 4)⟩, []⟩,
  ⟨3, ⟨(some 16), none, .idxStr (.tmp 14) (.tmp 15)⟩, []⟩,
  ⟨4, ⟨(some 17), none, .conv (.toInt .i64) (.tmp 16)⟩, []⟩,
  ⟨5, ⟨(some 18), none, .bin .xor .basic (.tmp 13) (.tmp 17)⟩, []⟩,
  ⟨6, ⟨(some 3), none, .mov (.tmp 18)⟩, []⟩]
def r22_5 : List RegE := [
  ⟨0, ⟨(some 5), none, .mov (.const (.int .i64 0))⟩, []⟩]
def r22_6 : List RegE := [
  ⟨0, ⟨(some 19), none, .mov (.tmp 5)⟩, []⟩,
  ⟨1, ⟨(some 20), none, .bin .lss .basic (.tmp 19) (.const (.int .i64 8))⟩, []⟩]
def r22_7 : List RegE := [
  ⟨0, ⟨(some 23), none, .mov (.tmp 3)⟩, []⟩,
  ⟨1, ⟨(some 24), none, .bin .rem .basic (.tmp 23) (.const (.int .i64 2))⟩, []⟩,
  ⟨2, ⟨(some 25), none, .bin .eql .basic (.tmp 24) (.const (.int .i64 1))⟩, []⟩,
  ⟨3, ⟨(some 6), none, .mov (.tmp 25)⟩, []⟩]
def r22_8 : List RegE := [
  ⟨0, ⟨(some 26), none, .mov (.tmp 3)⟩, []⟩,
  ⟨1, ⟨(some 27), none, .bin .quo .basic (.tmp 26) (.const (.int .i64 2))⟩, []⟩,
  ⟨2, ⟨(some 3), none, .mov (.tmp 27)⟩, []⟩]
def r22_9 : List RegE := [
  ⟨0, ⟨(some 28), none, .mov (.tmp 6)⟩, []⟩]
def r22_10 : List RegE := [
  ⟨0, ⟨(some 29), none, .mov (.tmp 3)⟩, []⟩,
  ⟨1, ⟨(some 30), none, .bin .xor .basic (.tmp 29) (.const (.int .i64 3988292384))⟩, []⟩,
  ⟨2, ⟨(some 3), none, .mov (.tmp 30)⟩, []⟩]
def r22_11 : List RegE := [
  ⟨0, ⟨(some 21), none, .mov (.tmp 5)⟩, []⟩,
  ⟨1, ⟨(some 22), none, .bin .add .basic (.tmp 21) (.const (.int .i64 1))⟩, []⟩,
  ⟨2, ⟨(some 5), none, .mov (.tmp 22)⟩, []⟩]
def l22_12 : ACode := .seq (.seq (.seq (.region 2 r22_6) (.cond (.tmp 20) .skip (.exit 2))) (.seq (.seq (.block 3 (.seq (.region 4 r22_7) (.seq (.region 3 r22_8) (.seq (.region 1 r22_9) (.seq (.cond (.tmp 28) (.region 3 r22_10) .skip) (.forget [0, 3, 4, 5])))))) (.forget [0, 3, 4, 5])) (.region 3 r22_11))) (.forget [0, 3, 4, 5])
def r22_13 : List RegE := [
  ⟨0, ⟨(some 11), none, .mov (.tmp 4)⟩, []⟩,
  ⟨1, ⟨(some 12), none, .bin .add .basic (.tmp 11) (.const (.int .i64 1))⟩, []⟩,
  ⟨2, ⟨(some 4), none, .mov (.tmp 12)⟩, []⟩]
def l22_14 : ACode := .seq (.seq (.seq (.region 4 r22_3) (.cond (.tmp 10) .skip (.exit 0))) (.seq (.seq (.block 1 (.seq (.seq (.region 7 r22_4) (.forget [0, 3, 4])) (.seq (.region 1 r22_5) (.seq (.block 2 (.seq (.forget [0, 3, 4, 5]) (.loop l22_12))) (.forget [0, 3, 4]))))) (.forget [0, 3, 4])) (.region 3 r22_13))) (.forget [0, 3, 4])
def r22_15 : List RegE := [
  ⟨0, ⟨(some 31), none, .mov (.tmp 3)⟩, []⟩,
  ⟨1, ⟨(some 32), none, .bin .xor .basic (.tmp 31) (.const (.int .i64 4294967295))⟩, []⟩,
  ⟨2, ⟨(some 2), none, .mov (.tmp 32)⟩, []⟩]
def k22 : List (Option (List Nat)) := [none, none, none, some [3], some [0, 3, 4], none, none, some [0, 3, 4], some [0, 3, 4], none, some [0, 3, 4], some [0, 3, 4, 5], none, none, some [0, 3, 4, 5], none, none, none, some [0, 3, 4, 5], none, none, none, none]
def c22 : AFunc := ⟨33, .seq (.region 1 r22_0) (.seq (.region 1 r22_1) (.seq (.seq (.region 1 r22_2) (.seq (.block 0 (.seq (.forget [0, 3, 4]) (.loop l22_14))) (.forget [3]))) (.seq (.region 3 r22_15) .ret))), [.tmp 2]⟩
theorem e22 : compFuncA Try.prog 22 k22 = some c22 := by kernel_rfl
/-! 23: vitrine/vitrinelaw01.awake -/
def r23_0 : List RegE := [
  ⟨0, ⟨(some 0), none, .mov (.const (.bool false))⟩, []⟩]
def r23_1 : List RegE := [
  ⟨0, ⟨(some 11), none, .call 26 [.const (.str ⟨#[181, 1]⟩)]⟩, []⟩,
  ⟨1, ⟨(some 1), none, .mov (.tmp 11)⟩, []⟩]
def r23_2 : List RegE := [
  ⟨0, ⟨(some 12), none, .call 33 []⟩, []⟩,
  ⟨1, ⟨(some 2), none, .mov (.tmp 12)⟩, []⟩]
def r23_3 : List RegE := [
  ⟨0, ⟨(some 14), none, .mov (.tmp 1)⟩, []⟩,
  ⟨1, ⟨(some 15), none, .call 29 [.tmp 14, .const (.int .i64 3)]⟩, []⟩,
  ⟨2, ⟨(some 13), none, .mov (.tmp 15)⟩, []⟩,
  ⟨3, ⟨(some 16), none, .extract (.tmp 13) 0⟩, []⟩,
  ⟨4, ⟨(some 17), none, .extract (.tmp 13) 1⟩, []⟩,
  ⟨5, ⟨(some 3), none, .mov (.tmp 16)⟩, []⟩,
  ⟨6, ⟨(some 4), none, .mov (.tmp 17)⟩, []⟩]
def r23_4 : List RegE := [
  ⟨0, ⟨(some 19), none, .mov (.tmp 1)⟩, []⟩,
  ⟨1, ⟨(some 20), none, .call 29 [.tmp 19, .const (.int .i64 4)]⟩, []⟩,
  ⟨2, ⟨(some 18), none, .mov (.tmp 20)⟩, []⟩,
  ⟨3, ⟨(some 21), none, .extract (.tmp 18) 0⟩, []⟩,
  ⟨4, ⟨(some 22), none, .extract (.tmp 18) 1⟩, []⟩,
  ⟨5, ⟨(some 5), none, .mov (.tmp 21)⟩, []⟩,
  ⟨6, ⟨(some 6), none, .mov (.tmp 22)⟩, []⟩]
def r23_5 : List RegE := [
  ⟨0, ⟨(some 24), none, .mov (.tmp 1)⟩, []⟩,
  ⟨1, ⟨(some 25), none, .call 29 [.tmp 24, .const (.int .i64 0)]⟩, []⟩,
  ⟨2, ⟨(some 23), none, .mov (.tmp 25)⟩, []⟩,
  ⟨3, ⟨(some 26), none, .extract (.tmp 23) 0⟩, []⟩,
  ⟨4, ⟨(some 27), none, .extract (.tmp 23) 1⟩, []⟩,
  ⟨5, ⟨(some 7), none, .mov (.tmp 26)⟩, []⟩,
  ⟨6, ⟨(some 8), none, .mov (.tmp 27)⟩, []⟩]
def r23_6 : List RegE := [
  ⟨0, ⟨(some 29), none, .mov (.tmp 1)⟩, []⟩,
  ⟨1, ⟨(some 30), none, .call 27 [.tmp 29, .const (.int .i64 1)]⟩, []⟩,
  ⟨2, ⟨(some 28), none, .mov (.tmp 30)⟩, []⟩,
  ⟨3, ⟨(some 31), none, .extract (.tmp 28) 0⟩, []⟩,
  ⟨4, ⟨(some 32), none, .extract (.tmp 28) 1⟩, []⟩,
  ⟨5, ⟨(some 9), none, .mov (.tmp 31)⟩, []⟩,
  ⟨6, ⟨(some 10), none, .mov (.tmp 32)⟩, []⟩]
def r23_7 : List RegE := [
  ⟨0, ⟨(some 33), none, .mov (.tmp 2)⟩, []⟩,
  ⟨1, ⟨(some 34), none, .call 37 [.tmp 33, .const (.int .i64 5), .const (.int .i64 3)]⟩, []⟩]
def r23_8 : List RegE := [
  ⟨0, ⟨(some 35), none, .mov (.tmp 2)⟩, []⟩,
  ⟨1, ⟨(some 36), none, .call 37 [.tmp 35, .const (.int .i64 6), .const (.int .i64 4)]⟩, []⟩]
def r23_9 : List RegE := [
  ⟨0, ⟨(some 37), none, .mov (.tmp 2)⟩, []⟩,
  ⟨1, ⟨(some 38), none, .call 34 [.tmp 37, .const (.str ⟨#[120]⟩)]⟩, []⟩]
def r23_10 : List RegE := [
  ⟨0, ⟨(some 39), none, .call 21 [.const (.str ⟨#[49, 50, 51, 52, 53, 54, 55, 56, 57]⟩)]⟩, []⟩,
  ⟨1, ⟨(some 40), none, .bin .eql .basic (.tmp 39) (.const (.int .i64 3421780262))⟩, []⟩,
  ⟨2, ⟨(some 41), none, .mov (.tmp 40)⟩, []⟩,
  ⟨3, ⟨(some 42), (some (41, true)), .call 24 [.const (.str ⟨#[87, 105, 107, 105, 112, 101, 100, 105, 97]⟩)]⟩, []⟩,
  ⟨4, ⟨(some 43), (some (41, true)), .bin .eql .basic (.tmp 42) (.const (.int .i64 300286872))⟩, []⟩,
  ⟨5, ⟨(some 44), none, .pick (.tmp 41) (.tmp 43) (.const (.bool false))⟩, []⟩,
  ⟨6, ⟨(some 45), none, .mov (.tmp 44)⟩, []⟩,
  ⟨7, ⟨(some 46), (some (45, true)), .mov (.tmp 3)⟩, []⟩,
  ⟨8, ⟨(some 47), (some (45, true)), .bin .eql .basic (.tmp 46) (.const (.int .i64 5))⟩, []⟩,
  ⟨9, ⟨(some 48), none, .pick (.tmp 45) (.tmp 47) (.const (.bool false))⟩, []⟩,
  ⟨10, ⟨(some 49), none, .mov (.tmp 48)⟩, []⟩,
  ⟨11, ⟨(some 50), (some (49, true)), .mov (.tmp 5)⟩, []⟩,
  ⟨12, ⟨(some 51), (some (49, true)), .bin .eql .basic (.tmp 50) (.const (.int .i64 6))⟩, []⟩,
  ⟨13, ⟨(some 52), none, .pick (.tmp 49) (.tmp 51) (.const (.bool false))⟩, []⟩,
  ⟨14, ⟨(some 53), none, .mov (.tmp 52)⟩, []⟩,
  ⟨15, ⟨(some 54), (some (53, true)), .mov (.tmp 7)⟩, []⟩,
  ⟨16, ⟨(some 55), (some (53, true)), .bin .eql .basic (.tmp 54) (.const (.int .i64 0))⟩, []⟩,
  ⟨17, ⟨(some 56), none, .pick (.tmp 53) (.tmp 55) (.const (.bool false))⟩, []⟩,
  ⟨18, ⟨(some 57), none, .mov (.tmp 56)⟩, []⟩,
  ⟨19, ⟨(some 58), (some (57, true)), .mov (.tmp 9)⟩, []⟩,
  ⟨20, ⟨(some 59), (some (57, true)), .bin .eql .basic (.tmp 58) (.const (.str ⟨#[1]⟩))⟩, []⟩,
  ⟨21, ⟨(some 60), none, .pick (.tmp 57) (.tmp 59) (.const (.bool false))⟩, []⟩,
  ⟨22, ⟨(some 61), none, .mov (.tmp 60)⟩, []⟩,
  ⟨23, ⟨(some 62), (some (61, true)), .mov (.tmp 4)⟩, []⟩,
  ⟨24, ⟨(some 63), (some (61, true)), .bin .eql .basic (.tmp 62) (.const (.int .i64 0))⟩, []⟩,
  ⟨25, ⟨(some 64), none, .pick (.tmp 61) (.tmp 63) (.const (.bool false))⟩, []⟩,
  ⟨26, ⟨(some 65), none, .mov (.tmp 64)⟩, []⟩,
  ⟨27, ⟨(some 66), (some (65, true)), .mov (.tmp 6)⟩, []⟩,
  ⟨28, ⟨(some 67), (some (65, true)), .bin .eql .basic (.tmp 66) (.const (.int .i64 0))⟩, []⟩,
  ⟨29, ⟨(some 68), none, .pick (.tmp 65) (.tmp 67) (.const (.bool false))⟩, []⟩,
  ⟨30, ⟨(some 69), none, .mov (.tmp 68)⟩, []⟩,
  ⟨31, ⟨(some 70), (some (69, true)), .mov (.tmp 8)⟩, []⟩,
  ⟨32, ⟨(some 71), (some (69, true)), .bin .eql .basic (.tmp 70) (.const (.int .i64 0))⟩, []⟩,
  ⟨33, ⟨(some 72), none, .pick (.tmp 69) (.tmp 71) (.const (.bool false))⟩, []⟩,
  ⟨34, ⟨(some 73), none, .mov (.tmp 72)⟩, []⟩,
  ⟨35, ⟨(some 74), (some (73, true)), .mov (.tmp 10)⟩, []⟩,
  ⟨36, ⟨(some 75), (some (73, true)), .bin .eql .basic (.tmp 74) (.const (.int .i64 0))⟩, []⟩,
  ⟨37, ⟨(some 76), none, .pick (.tmp 73) (.tmp 75) (.const (.bool false))⟩, []⟩,
  ⟨38, ⟨(some 77), none, .mov (.tmp 76)⟩, []⟩,
  ⟨39, ⟨(some 78), (some (77, true)), .mov (.tmp 2)⟩, []⟩,
  ⟨40, ⟨(some 79), (some (77, true)), .call 39 [.tmp 78]⟩, []⟩,
  ⟨41, ⟨(some 80), (some (77, true)), .bin .eql .basic (.tmp 79) (.const (.str ⟨#[53, 120]⟩))⟩, []⟩,
  ⟨42, ⟨(some 81), none, .pick (.tmp 77) (.tmp 80) (.const (.bool false))⟩, []⟩,
  ⟨43, ⟨(some 0), none, .mov (.tmp 81)⟩, []⟩]
def k23 : List (Option (List Nat)) := [none, none, none, some [1, 2, 3, 4], some [1, 2, 3, 4, 5, 6], some [1, 2, 3, 4, 5, 6, 7, 8], some [2, 3, 4, 5, 6, 7, 8, 9, 10], none, none, none, some [0]]
def c23 : AFunc := ⟨82, .seq (.region 1 r23_0) (.seq (.region 2 r23_1) (.seq (.region 2 r23_2) (.seq (.seq (.region 7 r23_3) (.forget [1, 2, 3, 4])) (.seq (.seq (.region 7 r23_4) (.forget [1, 2, 3, 4, 5, 6])) (.seq (.seq (.region 7 r23_5) (.forget [1, 2, 3, 4, 5, 6, 7, 8])) (.seq (.seq (.region 7 r23_6) (.forget [2, 3, 4, 5, 6, 7, 8, 9, 10])) (.seq (.region 2 r23_7) (.seq (.region 2 r23_8) (.seq (.region 2 r23_9) (.seq (.seq (.region 44 r23_10) (.forget [0])) .ret)))))))))), [.tmp 0]⟩
theorem e23 : compFuncA Try.prog 23 k23 = some c23 := by kernel_rfl
/-! 24: vitrine/bits.Adler -/
def r24_0 : List RegE := [
  ⟨0, ⟨(some 2), none, .mov (.const (.int .i64 0))⟩, []⟩]
def r24_1 : List RegE := [
  ⟨0, ⟨(some 3), none, .mov (.const (.int .i64 1))⟩, []⟩,
  ⟨1, ⟨(some 4), none, .mov (.const (.int .i64 0))⟩, []⟩]
def r24_2 : List RegE := [
  ⟨0, ⟨(some 6), none, .mov (.tmp 0)⟩, []⟩,
  ⟨1, ⟨(some 7), none, .len true (.tmp 6)⟩, []⟩,
  ⟨2, ⟨(some 8), none, .mov (.const (.int .i64 0))⟩, []⟩]
def r24_3 : List RegE := [
  ⟨0, ⟨(some 9), none, .bin .lss .basic (.tmp 8) (.tmp 7)⟩, []⟩]
def r24_4 : List RegE := [
  ⟨0, ⟨(some 10), none, .mov (.tmp 8)⟩, []⟩,
  ⟨1, ⟨(some 5), none, .mov (.tmp 10)⟩, []⟩]
def r24_5 : List RegE := [
  ⟨0, ⟨(some 11), none, .mov (.tmp 3)⟩, []⟩,
  ⟨1, ⟨(some 12), none, .mov (.tmp 0)⟩, []⟩,
  ⟨2, ⟨(some 13), none, .mov (.tmp 5)⟩, []⟩,
  ⟨3, ⟨(some 14), none, .idxStr (.tmp 12) (.tmp 13)⟩, []⟩,
  ⟨4, ⟨(some 15), none, .conv (.toInt .i64) (.tmp 14)⟩, []⟩,
  ⟨5, ⟨(some 16), none, .bin .add .basic (.tmp 11) (.tmp 15)⟩, []⟩,
  ⟨6, ⟨(some 17), none, .bin .rem .basic (.tmp 16) (.const (.int .i64 65521))⟩, []⟩,
  ⟨7, ⟨(some 3), none, .mov (.tmp 17)⟩, []⟩]
def r24_6 : List RegE := [
  ⟨0, ⟨(some 18), none, .mov (.tmp 4)⟩, []⟩,
  ⟨1, ⟨(some 19), none, .mov (.tmp 3)⟩, []⟩,
  ⟨2, ⟨(some 20), none, .bin .add .basic (.tmp 18) (.tmp 19)⟩, []⟩,
  ⟨3, ⟨(some 21), none, .bin .rem .basic (.tmp 20) (.const (.int .i64 65521))⟩, []⟩,
  ⟨4, ⟨(some 4), none, .mov (.tmp 21)⟩, []⟩]
def r24_7 : List RegE := [
  ⟨0, ⟨(some 22), none, .bin .add .basic (.tmp 8) (.const (.int .i64 1))⟩, []⟩,
  ⟨1, ⟨(some 8), none, .mov (.tmp 22)⟩, []⟩]
def l24_8 : ACode := .seq (.seq (.region 1 r24_3) (.seq (.cond (.tmp 9) .skip (.exit 0)) (.seq (.block 1 (.seq (.region 2 r24_4) (.seq (.seq (.region 8 r24_5) (.forget [0, 3, 4, 7, 8])) (.seq (.region 5 r24_6) (.forget [0, 3, 4, 7, 8]))))) (.region 2 r24_7)))) (.forget [0, 3, 4, 7, 8])
def r24_9 : List RegE := [
  ⟨0, ⟨(some 23), none, .mov (.tmp 4)⟩, []⟩,
  ⟨1, ⟨(some 24), none, .bin .shl .basic (.tmp 23) (.const (.int .u64 16))⟩, []⟩,
  ⟨2, ⟨(some 25), none, .mov (.tmp 3)⟩, []⟩,
  ⟨3, ⟨(some 26), none, .bin .or .basic (.tmp 24) (.tmp 25)⟩, []⟩,
  ⟨4, ⟨(some 2), none, .mov (.tmp 26)⟩, []⟩]
def k24 : List (Option (List Nat)) := [none, none, none, some [3, 4], some [0, 3, 4, 7, 8], none, none, none, none, some [0, 3, 4, 7, 8], some [0, 3, 4, 7, 8], none, some [2]]
def c24 : AFunc := ⟨27, .seq (.region 1 r24_0) (.seq (.region 2 r24_1) (.seq (.seq (.region 3 r24_2) (.seq (.block 0 (.seq (.forget [0, 3, 4, 7, 8]) (.loop l24_8))) (.forget [3, 4]))) (.seq (.seq (.region 5 r24_9) (.forget [2])) .ret))), [.tmp 2]⟩
theorem e24 : compFuncA Try.prog 24 k24 = some c24 := by kernel_rfl
/-! 25: vitrine/vitrineref01.Adler -/
def r25_0 : List RegE := [
  ⟨0, ⟨(some 2), none, .mov (.const (.int .i64 0))⟩, []⟩]
def r25_1 : List RegE := [
  ⟨0, ⟨(some 3), none, .mov (.const (.int .i64 1))⟩, []⟩]
def r25_2 : List RegE := [
  ⟨0, ⟨(some 4), none, .mov (.const (.int .i64 0))⟩, []⟩]
def r25_3 : List RegE := [
  ⟨0, ⟨(some 5), none, .mov (.const (.int .i64 0))⟩, []⟩]
def r25_4 : List RegE := [
  ⟨0, ⟨(some 6), none, .mov (.tmp 5)⟩, []⟩,
  ⟨1, ⟨(some 7), none, .mov (.tmp 0)⟩, []⟩,
  ⟨2, ⟨(some 8), none, .len true (.tmp 7)⟩, []⟩,
  ⟨3, ⟨(some 9), none, .bin .lss .basic (.tmp 6) (.tmp 8)⟩, []⟩]
def r25_5 : List RegE := [
  ⟨0, ⟨(some 12), none, .mov (.tmp 3)⟩, []⟩,
  ⟨1, ⟨(some 13), none, .mov (.tmp 0)⟩, []⟩,
  ⟨2, ⟨(some 14), none, .mov (.tmp 5)⟩, []⟩,
  ⟨3, ⟨(some 15), none, .idxStr (.tmp 13) (.tmp 14)⟩, []⟩,
  ⟨4, ⟨(some 16), none, .conv (.toInt .i64) (.tmp 15)⟩, []⟩,
  ⟨5, ⟨(some 17), none, .bin .add .basic (.tmp 12) (.tmp 16)⟩, []⟩,
  ⟨6, ⟨(some 18), none, .bin .rem .basic (.tmp 17) (.const (.int .i64 65521))⟩, []⟩,
  ⟨7, ⟨(some 3), none, .mov (.tmp 18)⟩, []⟩]
def r25_6 : List RegE := [
  ⟨0, ⟨(some 19), none, .mov (.tmp 4)⟩, []⟩,
  ⟨1, ⟨(some 20), none, .mov (.tmp 3)⟩, []⟩,
  ⟨2, ⟨(some 21), none, .bin .add .basic (.tmp 19) (.tmp 20)⟩, []⟩,
  ⟨3, ⟨(some 22), none, .bin .rem .basic (.tmp 21) (.const (.int .i64 65521))⟩, []⟩,
  ⟨4, ⟨(some 4), none, .mov (.tmp 22)⟩, []⟩]
def r25_7 : List RegE := [
  ⟨0, ⟨(some 10), none, .mov (.tmp 5)⟩, []⟩,
  ⟨1, ⟨(some 11), none, .bin .add .basic (.tmp 10) (.const (.int .i64 1))⟩, []⟩,
  ⟨2, ⟨(some 5), none, .mov (.tmp 11)⟩, []⟩]
def l25_8 : ACode := .seq (.seq (.seq (.region 4 r25_4) (.cond (.tmp 9) .skip (.exit 0))) (.seq (.block 1 (.seq (.seq (.region 8 r25_5) (.forget [0, 3, 4, 5])) (.seq (.region 5 r25_6) (.forget [0, 3, 4, 5])))) (.region 3 r25_7))) (.forget [0, 3, 4, 5])
def r25_9 : List RegE := [
  ⟨0, ⟨(some 23), none, .mov (.tmp 4)⟩, []⟩,
  ⟨1, ⟨(some 24), none, .bin .mul .basic (.const (.int .i64 65536)) (.tmp 23)⟩, []⟩,
  ⟨2, ⟨(some 25), none, .mov (.tmp 3)⟩, []⟩,
  ⟨3, ⟨(some 26), none, .bin .add .basic (.tmp 24) (.tmp 25)⟩, []⟩,
  ⟨4, ⟨(some 2), none, .mov (.tmp 26)⟩, []⟩]
def k25 : List (Option (List Nat)) := [none, none, none, none, some [3, 4], some [0, 3, 4, 5], none, none, none, some [0, 3, 4, 5], some [0, 3, 4, 5], none, some [2]]
def c25 : AFunc := ⟨27, .seq (.region 1 r25_0) (.seq (.region 1 r25_1) (.seq (.region 1 r25_2) (.seq (.seq (.region 1 r25_3) (.seq (.block 0 (.seq (.forget [0, 3, 4, 5]) (.loop l25_8))) (.forget [3, 4]))) (.seq (.seq (.region 5 r25_9) (.forget [2])) .ret)))), [.tmp 2]⟩
theorem e25 : compFuncA Try.prog 25 k25 = some c25 := by kernel_rfl
/-! 26: vitrine/bits.Read -/
def r26_0 : List RegE := [
  ⟨0, ⟨(some 2), none, .mov (.const .nilp)⟩, []⟩]
def r26_1 : List RegE := [
  ⟨0, ⟨(some 3), none, .mov (.tmp 0)⟩, []⟩,
  ⟨1, ⟨(some 4), none, .build [.str ⟨#[]⟩, .int .i64 0, .int .i64 0] [(0, 1, .tmp 3)]⟩, []⟩,
  ⟨2, ⟨(some 5), none, .box (.tmp 4)⟩, []⟩,
  ⟨3, ⟨(some 2), none, .mov (.tmp 5)⟩, []⟩]
def k26 : List (Option (List Nat)) := [none, none]
def c26 : AFunc := ⟨6, .seq (.region 1 r26_0) (.seq (.region 4 r26_1) .ret), [.tmp 2]⟩
theorem e26 : compFuncA Try.prog 26 k26 = some c26 := by kernel_rfl
/-! 27: (*vitrine/bits.Reader).Bytes -/
def r27_0 : List RegE := [
  ⟨0, ⟨(some 4), none, .mov (.const (.str ⟨#[]⟩))⟩, []⟩,
  ⟨1, ⟨(some 5), none, .mov (.const (.int .i64 0))⟩, []⟩]
def r27_1 : List RegE := [
  ⟨0, ⟨(some 8), none, .mov (.tmp 0)⟩, []⟩,
  ⟨1, ⟨(some 9), none, .bin .eql .ptr (.tmp 8) (.const .nilp)⟩, []⟩,
  ⟨2, ⟨(some 7), none, .mov (.tmp 9)⟩, []⟩]
def r27_2 : List RegE := [
  ⟨0, ⟨(some 4), none, .mov (.const (.str ⟨#[]⟩))⟩, []⟩,
  ⟨1, ⟨(some 5), none, .mov (.const (.int .i64 2))⟩, []⟩]
def r27_3 : List RegE := [
  ⟨0, ⟨(some 11), none, .mov (.tmp 1)⟩, []⟩,
  ⟨1, ⟨(some 12), none, .bin .lss .basic (.tmp 11) (.const (.int .i64 0))⟩, []⟩,
  ⟨2, ⟨(some 10), none, .mov (.tmp 12)⟩, []⟩]
def r27_4 : List RegE := [
  ⟨0, ⟨(some 4), none, .mov (.const (.str ⟨#[]⟩))⟩, []⟩,
  ⟨1, ⟨(some 5), none, .mov (.const (.int .i64 1))⟩, []⟩]
def r27_5 : List RegE := [
  ⟨0, ⟨(some 13), none, .mov (.tmp 0)⟩, []⟩,
  ⟨1, ⟨(some 14), none, .mov (.tmp 0)⟩, []⟩,
  ⟨2, ⟨(some 15), none, .nilchk (.tmp 13)⟩, []⟩,
  ⟨3, ⟨(some 16), none, .faddr 1 (.tmp 15)⟩, []⟩,
  ⟨4, ⟨none, none, .store 1 (.tmp 16) (.const (.int .i64 0))⟩, []⟩,
  ⟨5, ⟨(some 17), none, .nilchk (.tmp 14)⟩, []⟩,
  ⟨6, ⟨(some 18), none, .faddr 2 (.tmp 17)⟩, []⟩,
  ⟨7, ⟨none, none, .store 1 (.tmp 18) (.const (.int .i64 0))⟩, []⟩]
def r27_6 : List RegE := [
  ⟨0, ⟨(some 19), none, .mov (.tmp 1)⟩, []⟩,
  ⟨1, ⟨(some 20), none, .mov (.tmp 0)⟩, []⟩,
  ⟨2, ⟨(some 21), none, .nilchk (.tmp 20)⟩, []⟩,
  ⟨3, ⟨(some 22), none, .faddr 0 (.tmp 21)⟩, []⟩,
  ⟨4, ⟨(some 23), none, .load none (.tmp 22)⟩, []⟩,
  ⟨5, ⟨(some 24), none, .len true (.tmp 23)⟩, []⟩,
  ⟨6, ⟨(some 25), none, .bin .gtr .basic (.tmp 19) (.tmp 24)⟩, []⟩]
def r27_7 : List RegE := [
  ⟨0, ⟨(some 4), none, .mov (.const (.str ⟨#[]⟩))⟩, []⟩,
  ⟨1, ⟨(some 5), none, .mov (.const (.int .i64 3))⟩, []⟩]
def r27_8 : List RegE := [
  ⟨0, ⟨(some 26), none, .mov (.tmp 0)⟩, []⟩,
  ⟨1, ⟨(some 27), none, .nilchk (.tmp 26)⟩, []⟩,
  ⟨2, ⟨(some 28), none, .faddr 0 (.tmp 27)⟩, []⟩,
  ⟨3, ⟨(some 29), none, .load none (.tmp 28)⟩, []⟩,
  ⟨4, ⟨(some 30), none, .mov (.tmp 1)⟩, []⟩,
  ⟨5, ⟨(some 31), none, .slStr (.tmp 29) none (some (.tmp 30))⟩, []⟩,
  ⟨6, ⟨(some 6), none, .mov (.tmp 31)⟩, []⟩]
def r27_9 : List RegE := [
  ⟨0, ⟨(some 32), none, .mov (.tmp 0)⟩, []⟩,
  ⟨1, ⟨(some 33), none, .mov (.tmp 0)⟩, []⟩,
  ⟨2, ⟨(some 34), none, .nilchk (.tmp 33)⟩, []⟩,
  ⟨3, ⟨(some 35), none, .faddr 0 (.tmp 34)⟩, []⟩,
  ⟨4, ⟨(some 36), none, .load none (.tmp 35)⟩, []⟩,
  ⟨5, ⟨(some 37), none, .mov (.tmp 1)⟩, []⟩,
  ⟨6, ⟨(some 38), none, .slStr (.tmp 36) (some (.tmp 37)) none⟩, []⟩,
  ⟨7, ⟨(some 39), none, .nilchk (.tmp 32)⟩, []⟩,
  ⟨8, ⟨(some 40), none, .faddr 0 (.tmp 39)⟩, []⟩,
  ⟨9, ⟨none, none, .store 1 (.tmp 40) (.tmp 38)⟩, []⟩]
def r27_10 : List RegE := [
  ⟨0, ⟨(some 41), none, .mov (.tmp 6)⟩, []⟩,
  ⟨1, ⟨(some 4), none, .mov (.tmp 41)⟩, []⟩,
  ⟨2, ⟨(some 5), none, .mov (.const (.int .i64 0))⟩, []⟩]
def k27 : List (Option (List Nat)) := [none, some [0, 1], none, none, none, none, none, none, some [0, 1], some [0, 1, 25], none, none, some [0, 1, 6], some [6], none]
def c27 : AFunc := ⟨42, .seq (.region 2 r27_0) (.seq (.seq (.block 0 (.seq (.region 3 r27_1) (.cond (.tmp 7) (.seq (.region 2 r27_2) .ret) (.seq (.region 3 r27_3) (.cond (.tmp 10) (.seq (.region 2 r27_4) .ret) .skip))))) (.forget [0, 1])) (.seq (.seq (.region 8 r27_5) (.forget [0, 1])) (.seq (.seq (.seq (.region 7 r27_6) (.forget [0, 1, 25])) (.cond (.tmp 25) (.seq (.region 2 r27_7) .ret) .skip)) (.seq (.seq (.region 7 r27_8) (.forget [0, 1, 6])) (.seq (.seq (.region 10 r27_9) (.forget [6])) (.seq (.region 3 r27_10) .ret)))))), [.tmp 4, .tmp 5]⟩
theorem e27 : compFuncA Try.prog 27 k27 = some c27 := by kernel_rfl
/-! 28: (*vitrine/vitrineref01.Reader).Bytes -/
def r28_0 : List RegE := [
  ⟨0, ⟨(some 4), none, .mov (.const (.str ⟨#[]⟩))⟩, []⟩,
  ⟨1, ⟨(some 5), none, .mov (.const (.int .i64 0))⟩, []⟩]
def r28_1 : List RegE := [
  ⟨0, ⟨(some 7), none, .mov (.tmp 1)⟩, []⟩,
  ⟨1, ⟨(some 8), none, .bin .lss .basic (.tmp 7) (.const (.int .i64 0))⟩, []⟩]
def r28_2 : List RegE := [
  ⟨0, ⟨(some 4), none, .mov (.const (.str ⟨#[]⟩))⟩, []⟩,
  ⟨1, ⟨(some 5), none, .mov (.const (.int .i64 1))⟩, []⟩]
def r28_3 : List RegE := [
  ⟨0, ⟨(some 9), none, .mov (.tmp 0)⟩, []⟩,
  ⟨1, ⟨(some 10), none, .mov (.tmp 0)⟩, []⟩,
  ⟨2, ⟨(some 11), none, .nilchk (.tmp 10)⟩, []⟩,
  ⟨3, ⟨(some 12), none, .faddr 1 (.tmp 11)⟩, []⟩,
  ⟨4, ⟨(some 13), none, .load none (.tmp 12)⟩, []⟩,
  ⟨5, ⟨(some 14), none, .bin .add .basic (.tmp 13) (.const (.int .i64 7))⟩, []⟩,
  ⟨6, ⟨(some 15), none, .bin .quo .basic (.tmp 14) (.const (.int .i64 8))⟩, []⟩,
  ⟨7, ⟨(some 16), none, .bin .mul .basic (.tmp 15) (.const (.int .i64 8))⟩, []⟩,
  ⟨8, ⟨(some 17), none, .nilchk (.tmp 9)⟩, []⟩,
  ⟨9, ⟨(some 18), none, .faddr 1 (.tmp 17)⟩, []⟩,
  ⟨10, ⟨none, none, .store 1 (.tmp 18) (.tmp 16)⟩, []⟩]
def r28_4 : List RegE := [
  ⟨0, ⟨(some 19), none, .mov (.tmp 1)⟩, []⟩,
  ⟨1, ⟨(some 20), none, .mov (.tmp 0)⟩, []⟩,
  ⟨2, ⟨(some 21), none, .call 32 [.tmp 20]⟩, []⟩,
  ⟨3, ⟨(some 22), none, .bin .quo .basic (.tmp 21) (.const (.int .i64 8))⟩, []⟩,
  ⟨4, ⟨(some 23), none, .bin .gtr .basic (.tmp 19) (.tmp 22)⟩, []⟩]
def r28_5 : List RegE := [
  ⟨0, ⟨(some 4), none, .mov (.const (.str ⟨#[]⟩))⟩, []⟩,
  ⟨1, ⟨(some 5), none, .mov (.const (.int .i64 3))⟩, []⟩]
def r28_6 : List RegE := [
  ⟨0, ⟨(some 24), none, .mov (.tmp 0)⟩, []⟩,
  ⟨1, ⟨(some 25), none, .nilchk (.tmp 24)⟩, []⟩,
  ⟨2, ⟨(some 26), none, .faddr 0 (.tmp 25)⟩, []⟩,
  ⟨3, ⟨(some 27), none, .load none (.tmp 26)⟩, []⟩,
  ⟨4, ⟨(some 28), none, .mov (.tmp 0)⟩, []⟩,
  ⟨5, ⟨(some 29), none, .nilchk (.tmp 28)⟩, []⟩,
  ⟨6, ⟨(some 30), none, .faddr 1 (.tmp 29)⟩, []⟩,
  ⟨7, ⟨(some 31), none, .load none (.tmp 30)⟩, []⟩,
  ⟨8, ⟨(some 32), none, .bin .quo .basic (.tmp 31) (.const (.int .i64 8))⟩, []⟩,
  ⟨9, ⟨(some 33), none, .mov (.tmp 0)⟩, []⟩,
  ⟨10, ⟨(some 34), none, .nilchk (.tmp 33)⟩, []⟩,
  ⟨11, ⟨(some 35), none, .faddr 1 (.tmp 34)⟩, []⟩,
  ⟨12, ⟨(some 36), none, .load none (.tmp 35)⟩, []⟩,
  ⟨13, ⟨(some 37), none, .bin .quo .basic (.tmp 36) (.const (.int .i64 8))⟩, []⟩,
  ⟨14, ⟨(some 38), none, .mov (.tmp 1)⟩, []⟩,
  ⟨15, ⟨(some 39), none, .bin .add .basic (.tmp 37) (.tmp 38)⟩, []⟩,
  ⟨16, ⟨(some 40), none, .slStr (.tmp 27) (some (.tmp 32)) (some (.tmp 39))⟩, []⟩,
  ⟨17, ⟨(some 6), none, .mov (.tmp 40)⟩, []⟩]
def r28_7 : List RegE := [
  ⟨0, ⟨(some 41), none, .mov (.tmp 0)⟩, []⟩,
  ⟨1, ⟨(some 42), none, .mov (.tmp 0)⟩, []⟩,
  ⟨2, ⟨(some 43), none, .nilchk (.tmp 42)⟩, []⟩,
  ⟨3, ⟨(some 44), none, .faddr 1 (.tmp 43)⟩, []⟩,
  ⟨4, ⟨(some 45), none, .load none (.tmp 44)⟩, []⟩,
  ⟨5, ⟨(some 46), none, .mov (.tmp 1)⟩, []⟩,
  ⟨6, ⟨(some 47), none, .bin .mul .basic (.const (.int .i64 8)) (.tmp 46)⟩, []⟩,
  ⟨7, ⟨(some 48), none, .bin .add .basic (.tmp 45) (.tmp 47)⟩, []⟩,
  ⟨8, ⟨(some 49), none, .nilchk (.tmp 41)⟩, []⟩,
  ⟨9, ⟨(some 50), none, .faddr 1 (.tmp 49)⟩, []⟩,
  ⟨10, ⟨none, none, .store 1 (.tmp 50) (.tmp 48)⟩, []⟩]
def r28_8 : List RegE := [
  ⟨0, ⟨(some 51), none, .mov (.tmp 6)⟩, []⟩,
  ⟨1, ⟨(some 4), none, .mov (.tmp 51)⟩, []⟩,
  ⟨2, ⟨(some 5), none, .mov (.const (.int .i64 0))⟩, []⟩]
def k28 : List (Option (List Nat)) := [none, none, none, none, some [0, 1], some [0, 1, 23], none, none, some [0, 1, 6], some [6], none]
def c28 : AFunc := ⟨52, .seq (.region 2 r28_0) (.seq (.seq (.region 2 r28_1) (.cond (.tmp 8) (.seq (.region 2 r28_2) .ret) .skip)) (.seq (.seq (.region 11 r28_3) (.forget [0, 1])) (.seq (.seq (.seq (.region 5 r28_4) (.forget [0, 1, 23])) (.cond (.tmp 23) (.seq (.region 2 r28_5) .ret) .skip)) (.seq (.seq (.region 18 r28_6) (.forget [0, 1, 6])) (.seq (.seq (.region 11 r28_7) (.forget [6])) (.seq (.region 3 r28_8) .ret)))))), [.tmp 4, .tmp 5]⟩
theorem e28 : compFuncA Try.prog 28 k28 = some c28 := by kernel_rfl
/-! 29: (*vitrine/bits.Reader).Bits -/
def r29_0 : List RegE := [
  ⟨0, ⟨(some 4), none, .mov (.const (.int .i64 0))⟩, []⟩,
  ⟨1, ⟨(some 5), none, .mov (.const (.int .i64 0))⟩, []⟩]
def r29_1 : List RegE := [
  ⟨0, ⟨(some 8), none, .mov (.tmp 0)⟩, []⟩,
  ⟨1, ⟨(some 9), none, .bin .eql .ptr (.tmp 8) (.const .nilp)⟩, []⟩,
  ⟨2, ⟨(some 7), none, .mov (.tmp 9)⟩, []⟩]
def r29_2 : List RegE := [
  ⟨0, ⟨(some 4), none, .mov (.const (.int .i64 0))⟩, []⟩,
  ⟨1, ⟨(some 5), none, .mov (.const (.int .i64 2))⟩, []⟩]
def r29_3 : List RegE := [
  ⟨0, ⟨(some 11), none, .mov (.tmp 1)⟩, []⟩,
  ⟨1, ⟨(some 12), none, .bin .lss .basic (.tmp 11) (.const (.int .i64 0))⟩, []⟩,
  ⟨2, ⟨(some 13), none, .mov (.tmp 12)⟩, []⟩,
  ⟨3, ⟨(some 14), (some (13, false)), .mov (.tmp 1)⟩, []⟩,
  ⟨4, ⟨(some 15), (some (13, false)), .bin .gtr .basic (.tmp 14) (.const (.int .i64 24))⟩, []⟩,
  ⟨5, ⟨(some 16), none, .pick (.tmp 13) (.const (.bool true)) (.tmp 15)⟩, []⟩,
  ⟨6, ⟨(some 10), none, .mov (.tmp 16)⟩, []⟩]
def r29_4 : List RegE := [
  ⟨0, ⟨(some 4), none, .mov (.const (.int .i64 0))⟩, []⟩,
  ⟨1, ⟨(some 5), none, .mov (.const (.int .i64 1))⟩, []⟩]
def r29_5 : List RegE := [
  ⟨0, ⟨(some 18), none, .mov (.tmp 1)⟩, []⟩,
  ⟨1, ⟨(some 19), none, .mov (.tmp 0)⟩, []⟩,
  ⟨2, ⟨(some 20), none, .call 31 [.tmp 19]⟩, []⟩,
  ⟨3, ⟨(some 21), none, .bin .gtr .basic (.tmp 18) (.tmp 20)⟩, []⟩,
  ⟨4, ⟨(some 17), none, .mov (.tmp 21)⟩, []⟩]
def r29_6 : List RegE := [
  ⟨0, ⟨(some 4), none, .mov (.const (.int .i64 0))⟩, []⟩,
  ⟨1, ⟨(some 5), none, .mov (.const (.int .i64 3))⟩, []⟩]
def r29_7 : List RegE := [
  ⟨0, ⟨(some 22), none, .mov (.tmp 0)⟩, []⟩,
  ⟨1, ⟨(some 23), none, .nilchk (.tmp 22)⟩, []⟩,
  ⟨2, ⟨(some 24), none, .faddr 2 (.tmp 23)⟩, []⟩,
  ⟨3, ⟨(some 25), none, .load none (.tmp 24)⟩, []⟩,
  ⟨4, ⟨(some 26), none, .mov (.tmp 1)⟩, []⟩,
  ⟨5, ⟨(some 27), none, .bin .lss .basic (.tmp 25) (.tmp 26)⟩, []⟩]
def r29_8 : List RegE := [
  ⟨0, ⟨(some 28), none, .mov (.tmp 0)⟩, []⟩,
  ⟨1, ⟨(some 29), none, .nilchk (.tmp 28)⟩, []⟩,
  ⟨2, ⟨(some 30), none, .faddr 1 (.tmp 29)⟩, []⟩,
  ⟨3, ⟨(some 31), none, .load none (.tmp 30)⟩, []⟩,
  ⟨4, ⟨(some 32), none, .mov (.tmp 0)⟩, []⟩,
  ⟨5, ⟨(some 33), none, .nilchk (.tmp 32)⟩, []⟩,
  ⟨6, ⟨(some 34), none, .faddr 0 (.tmp 33)⟩, []⟩,
  ⟨7, ⟨(some 35), none, .load none (.tmp 34)⟩, []⟩,
  ⟨8, ⟨(some 36), none, .idxStr (.tmp 35) (.const (.int .i64 0))⟩, []⟩,
  ⟨9, ⟨(some 37), none, .conv (.toInt .i64) (.tmp 36)⟩, []⟩,
  ⟨10, ⟨(some 38), none, .mov (.tmp 0)⟩, []⟩,
  ⟨11, ⟨(some 39), none, .nilchk (.tmp 38)⟩, []⟩,
  ⟨12, ⟨(some 40), none, .faddr 2 (.tmp 39)⟩, []⟩,
  ⟨13, ⟨(some 41), none, .load none (.tmp 40)⟩, []⟩,
  ⟨14, ⟨(some 42), none, .bin .shl .basic (.tmp 37) (.tmp 41)⟩, []⟩,
  ⟨15, ⟨(some 43), none, .bin .or .basic (.tmp 31) (.tmp 42)⟩, []⟩,
  ⟨16, ⟨(some 44), none, .nilchk (.tmp 28)⟩, []⟩,
  ⟨17, ⟨(some 45), none, .faddr 1 (.tmp 44)⟩, []⟩,
  ⟨18, ⟨none, none, .store 1 (.tmp 45) (.tmp 43)⟩, []⟩]
def r29_9 : List RegE := [
  ⟨0, ⟨(some 46), none, .mov (.tmp 0)⟩, []⟩,
  ⟨1, ⟨(some 47), none, .nilchk (.tmp 46)⟩, []⟩,
  ⟨2, ⟨(some 48), none, .faddr 2 (.tmp 47)⟩, []⟩,
  ⟨3, ⟨(some 49), none, .load none (.tmp 48)⟩, []⟩,
  ⟨4, ⟨(some 50), none, .bin .add .basic (.tmp 49) (.const (.int .i64 8))⟩, []⟩,
  ⟨5, ⟨(some 51), none, .nilchk (.tmp 46)⟩, []⟩,
  ⟨6, ⟨(some 52), none, .faddr 2 (.tmp 51)⟩, []⟩,
  ⟨7, ⟨none, none, .store 1 (.tmp 52) (.tmp 50)⟩, []⟩]
def r29_10 : List RegE := [
  ⟨0, ⟨(some 53), none, .mov (.tmp 0)⟩, []⟩,
  ⟨1, ⟨(some 54), none, .mov (.tmp 0)⟩, []⟩,
  ⟨2, ⟨(some 55), none, .nilchk (.tmp 54)⟩, []⟩,
  ⟨3, ⟨(some 56), none, .faddr 0 (.tmp 55)⟩, []⟩,
  ⟨4, ⟨(some 57), none, .load none (.tmp 56)⟩, []⟩,
  ⟨5, ⟨(some 58), none, .slStr (.tmp 57) (some (.const (.int .i64 1))) none⟩, []⟩,
  ⟨6, ⟨(some 59), none, .nilchk (.tmp 53)⟩, []⟩,
  ⟨7, ⟨(some 60), none, .faddr 0 (.tmp 59)⟩, []⟩,
  ⟨8, ⟨none, none, .store 1 (.tmp 60) (.tmp 58)⟩, []⟩]
def l29_11 : ACode := .seq (.seq (.seq (.seq (.region 6 r29_7) (.forget [0, 1, 27])) (.cond (.tmp 27) .skip (.exit 1))) (.block 2 (.seq (.seq (.region 19 r29_8) (.forget [0, 1])) (.seq (.seq (.region 8 r29_9) (.forget [0, 1])) (.seq (.region 9 r29_10) (.forget [0, 1])))))) (.forget [0, 1])
def r29_12 : List RegE := [
  ⟨0, ⟨(some 61), none, .mov (.tmp 0)⟩, []⟩,
  ⟨1, ⟨(some 62), none, .nilchk (.tmp 61)⟩, []⟩,
  ⟨2, ⟨(some 63), none, .faddr 1 (.tmp 62)⟩, []⟩,
  ⟨3, ⟨(some 64), none, .load none (.tmp 63)⟩, []⟩,
  ⟨4, ⟨(some 65), none, .mov (.tmp 1)⟩, []⟩,
  ⟨5, ⟨(some 66), none, .bin .shl .basic (.const (.int .i64 1)) (.tmp 65)⟩, []⟩,
  ⟨6, ⟨(some 67), none, .bin .sub .basic (.tmp 66) (.const (.int .i64 1))⟩, []⟩,
  ⟨7, ⟨(some 68), none, .bin .and .basic (.tmp 64) (.tmp 67)⟩, []⟩,
  ⟨8, ⟨(some 6), none, .mov (.tmp 68)⟩, []⟩]
def r29_13 : List RegE := [
  ⟨0, ⟨(some 69), none, .mov (.tmp 0)⟩, []⟩,
  ⟨1, ⟨(some 70), none, .nilchk (.tmp 69)⟩, []⟩,
  ⟨2, ⟨(some 71), none, .faddr 1 (.tmp 70)⟩, []⟩,
  ⟨3, ⟨(some 72), none, .load none (.tmp 71)⟩, []⟩,
  ⟨4, ⟨(some 73), none, .mov (.tmp 1)⟩, []⟩,
  ⟨5, ⟨(some 74), none, .bin .shr .basic (.tmp 72) (.tmp 73)⟩, []⟩,
  ⟨6, ⟨(some 75), none, .nilchk (.tmp 69)⟩, []⟩,
  ⟨7, ⟨(some 76), none, .faddr 1 (.tmp 75)⟩, []⟩,
  ⟨8, ⟨none, none, .store 1 (.tmp 76) (.tmp 74)⟩, []⟩]
def r29_14 : List RegE := [
  ⟨0, ⟨(some 77), none, .mov (.tmp 0)⟩, []⟩,
  ⟨1, ⟨(some 78), none, .nilchk (.tmp 77)⟩, []⟩,
  ⟨2, ⟨(some 79), none, .faddr 2 (.tmp 78)⟩, []⟩,
  ⟨3, ⟨(some 80), none, .load none (.tmp 79)⟩, []⟩,
  ⟨4, ⟨(some 81), none, .mov (.tmp 1)⟩, []⟩,
  ⟨5, ⟨(some 82), none, .bin .sub .basic (.tmp 80) (.tmp 81)⟩, []⟩,
  ⟨6, ⟨(some 83), none, .nilchk (.tmp 77)⟩, []⟩,
  ⟨7, ⟨(some 84), none, .faddr 2 (.tmp 83)⟩, []⟩,
  ⟨8, ⟨none, none, .store 1 (.tmp 84) (.tmp 82)⟩, []⟩]
def r29_15 : List RegE := [
  ⟨0, ⟨(some 85), none, .mov (.tmp 6)⟩, []⟩,
  ⟨1, ⟨(some 4), none, .mov (.tmp 85)⟩, []⟩,
  ⟨2, ⟨(some 5), none, .mov (.const (.int .i64 0))⟩, []⟩]
def k29 : List (Option (List Nat)) := [none, some [0, 1], none, none, none, some [0, 1, 10], none, none, some [0, 1, 17], none, none, some [0, 1], some [0, 1], some [0, 1, 27], none, none, some [0, 1], some [0, 1], some [0, 1], some [0, 1, 6], some [0, 1, 6], some [6], none]
def c29 : AFunc := ⟨86, .seq (.region 2 r29_0) (.seq (.seq (.block 0 (.seq (.region 3 r29_1) (.cond (.tmp 7) (.seq (.region 2 r29_2) .ret) (.seq (.seq (.region 7 r29_3) (.forget [0, 1, 10])) (.cond (.tmp 10) (.seq (.region 2 r29_4) .ret) (.seq (.seq (.region 5 r29_5) (.forget [0, 1, 17])) (.cond (.tmp 17) (.seq (.region 2 r29_6) .ret) .skip))))))) (.forget [0, 1])) (.seq (.seq (.block 1 (.seq (.forget [0, 1]) (.loop l29_11))) (.forget [0, 1])) (.seq (.seq (.region 9 r29_12) (.forget [0, 1, 6])) (.seq (.seq (.region 9 r29_13) (.forget [0, 1, 6])) (.seq (.seq (.region 9 r29_14) (.forget [6])) (.seq (.region 3 r29_15) .ret)))))), [.tmp 4, .tmp 5]⟩
theorem e29 : compFuncA Try.prog 29 k29 = some c29 := by kernel_rfl
/-! 30: (*vitrine/vitrineref01.Reader).Bits -/
def r30_0 : List RegE := [
  ⟨0, ⟨(some 4), none, .mov (.const (.int .i64 0))⟩, []⟩,
  ⟨1, ⟨(some 5), none, .mov (.const (.int .i64 0))⟩, []⟩]
def r30_1 : List RegE := [
  ⟨0, ⟨(some 8), none, .mov (.tmp 1)⟩, []⟩,
  ⟨1, ⟨(some 9), none, .bin .lss .basic (.tmp 8) (.const (.int .i64 0))⟩, []⟩,
  ⟨2, ⟨(some 10), none, .mov (.tmp 9)⟩, []⟩,
  ⟨3, ⟨(some 11), (some (10, false)), .mov (.tmp 1)⟩, []⟩,
  ⟨4, ⟨(some 12), (some (10, false)), .bin .gtr .basic (.tmp 11) (.const (.int .i64 24))⟩, []⟩,
  ⟨5, ⟨(some 13), none, .pick (.tmp 10) (.const (.bool true)) (.tmp 12)⟩, []⟩]
def r30_2 : List RegE := [
  ⟨0, ⟨(some 4), none, .mov (.const (.int .i64 0))⟩, []⟩,
  ⟨1, ⟨(some 5), none, .mov (.const (.int .i64 1))⟩, []⟩]
def r30_3 : List RegE := [
  ⟨0, ⟨(some 14), none, .mov (.tmp 1)⟩, []⟩,
  ⟨1, ⟨(some 15), none, .mov (.tmp 0)⟩, []⟩,
  ⟨2, ⟨(some 16), none, .call 32 [.tmp 15]⟩, []⟩,
  ⟨3, ⟨(some 17), none, .bin .gtr .basic (.tmp 14) (.tmp 16)⟩, []⟩]
def r30_4 : List RegE := [
  ⟨0, ⟨(some 4), none, .mov (.const (.int .i64 0))⟩, []⟩,
  ⟨1, ⟨(some 5), none, .mov (.const (.int .i64 3))⟩, []⟩]
def r30_5 : List RegE := [
  ⟨0, ⟨(some 6), none, .mov (.const (.int .i64 0))⟩, []⟩]
def r30_6 : List RegE := [
  ⟨0, ⟨(some 7), none, .mov (.const (.int .i64 0))⟩, []⟩]
def r30_7 : List RegE := [
  ⟨0, ⟨(some 18), none, .mov (.tmp 7)⟩, []⟩,
  ⟨1, ⟨(some 19), none, .mov (.tmp 1)⟩, []⟩,
  ⟨2, ⟨(some 20), none, .bin .lss .basic (.tmp 18) (.tmp 19)⟩, []⟩]
def r30_8 : List RegE := [
  ⟨0, ⟨(some 23), none, .mov (.tmp 6)⟩, []⟩,
  ⟨1, ⟨(some 24), none, .mov (.tmp 0)⟩, []⟩,
  ⟨2, ⟨(some 25), none, .nilchk (.tmp 24)⟩, []⟩,
  ⟨3, ⟨(some 26), none, .faddr 0 (.tmp 25)⟩, []⟩,
  ⟨4, ⟨(some 27), none, .load none (.tmp 26)⟩, []⟩,
  ⟨5, ⟨(some 28), none, .mov (.tmp 0)⟩, []⟩,
  ⟨6, ⟨(some 29), none, .nilchk (.tmp 28)⟩, []⟩,
  ⟨7, ⟨(some 30), none, .faddr 1 (.tmp 29)⟩, []⟩,
  ⟨8, ⟨(some 31), none, .load none (.tmp 30)⟩, []⟩,
  ⟨9, ⟨(some 32), none, .mov (.tmp 7)⟩, []⟩,
  ⟨10, ⟨(some 33), none, .bin .add .basic (.tmp 31) (.tmp 32)⟩, []⟩,
  ⟨11, ⟨(some 34), none, .bin .quo .basic (.tmp 33) (.const (.int .i64 8))⟩, []⟩,
  ⟨12, ⟨(some 35), none, .idxStr (.tmp 27) (.tmp 34)⟩, []⟩,
  ⟨13, ⟨(some 36), none, .mov (.tmp 0)⟩, []⟩,
  ⟨14, ⟨(some 37), none, .nilchk (.tmp 36)⟩, []⟩,
  ⟨15, ⟨(some 38), none, .faddr 1 (.tmp 37)⟩, []⟩,
  ⟨16, ⟨(some 39), none, .load none (.tmp 38)⟩, []⟩,
  ⟨17, ⟨(some 40), none, .mov (.tmp 7)⟩, []⟩,
  ⟨18, ⟨(some 41), none, .bin .add .basic (.tmp 39) (.tmp 40)⟩, []⟩,
  ⟨19, ⟨(some 42), none, .bin .rem .basic (.tmp 41) (.const (.int .i64 8))⟩, []⟩,
  ⟨20, ⟨(some 43), none, .bin .shr .basic (.tmp 35) (.tmp 42)⟩, []⟩,
  ⟨21, ⟨(some 44), none, .bin .and .basic (.tmp 43) (.const (.int .u8 1))⟩, []⟩,
  ⟨22, ⟨(some 45), none, .conv (.toInt .i64) (.tmp 44)⟩, []⟩,
  ⟨23, ⟨(some 46), none, .mov (.tmp 7)⟩, []⟩,
  ⟨24, ⟨(some 47), none, .bin .shl .basic (.tmp 45) (.tmp 46)⟩, []⟩,
  ⟨25, ⟨(some 48), none, .bin .or .basic (.tmp 23) (.tmp 47)⟩, []⟩,
  ⟨26, ⟨(some 6), none, .mov (.tmp 48)⟩, []⟩]
def r30_9 : List RegE := [
  ⟨0, ⟨(some 21), none, .mov (.tmp 7)⟩, []⟩,
  ⟨1, ⟨(some 22), none, .bin .add .basic (.tmp 21) (.const (.int .i64 1))⟩, []⟩,
  ⟨2, ⟨(some 7), none, .mov (.tmp 22)⟩, []⟩]
def l30_10 : ACode := .seq (.seq (.seq (.region 3 r30_7) (.cond (.tmp 20) .skip (.exit 0))) (.seq (.block 1 (.seq (.region 27 r30_8) (.forget [0, 1, 6, 7]))) (.region 3 r30_9))) (.forget [0, 1, 6, 7])
def r30_11 : List RegE := [
  ⟨0, ⟨(some 49), none, .mov (.tmp 0)⟩, []⟩,
  ⟨1, ⟨(some 50), none, .mov (.tmp 0)⟩, []⟩,
  ⟨2, ⟨(some 51), none, .nilchk (.tmp 50)⟩, []⟩,
  ⟨3, ⟨(some 52), none, .faddr 1 (.tmp 51)⟩, []⟩,
  ⟨4, ⟨(some 53), none, .load none (.tmp 52)⟩, []⟩,
  ⟨5, ⟨(some 54), none, .mov (.tmp 1)⟩, []⟩,
  ⟨6, ⟨(some 55), none, .bin .add .basic (.tmp 53) (.tmp 54)⟩, []⟩,
  ⟨7, ⟨(some 56), none, .nilchk (.tmp 49)⟩, []⟩,
  ⟨8, ⟨(some 57), none, .faddr 1 (.tmp 56)⟩, []⟩,
  ⟨9, ⟨none, none, .store 1 (.tmp 57) (.tmp 55)⟩, []⟩]
def r30_12 : List RegE := [
  ⟨0, ⟨(some 58), none, .mov (.tmp 6)⟩, []⟩,
  ⟨1, ⟨(some 4), none, .mov (.tmp 58)⟩, []⟩,
  ⟨2, ⟨(some 5), none, .mov (.const (.int .i64 0))⟩, []⟩]
def k30 : List (Option (List Nat)) := [none, some [0, 1, 13], none, none, none, none, none, none, none, some [0, 1, 6], some [0, 1, 6, 7], none, none, none, some [0, 1, 6, 7], none, some [6], none]
def c30 : AFunc := ⟨59, .seq (.region 2 r30_0) (.seq (.seq (.seq (.region 6 r30_1) (.forget [0, 1, 13])) (.cond (.tmp 13) (.seq (.region 2 r30_2) .ret) .skip)) (.seq (.seq (.region 4 r30_3) (.cond (.tmp 17) (.seq (.region 2 r30_4) .ret) .skip)) (.seq (.region 1 r30_5) (.seq (.seq (.region 1 r30_6) (.seq (.block 0 (.seq (.forget [0, 1, 6, 7]) (.loop l30_10))) (.forget [0, 1, 6]))) (.seq (.seq (.region 10 r30_11) (.forget [6])) (.seq (.region 3 r30_12) .ret)))))), [.tmp 4, .tmp 5]⟩
theorem e30 : compFuncA Try.prog 30 k30 = some c30 := by kernel_rfl
/-! 31: (*vitrine/bits.Reader).Left -/
def r31_0 : List RegE := [
  ⟨0, ⟨(some 2), none, .mov (.const (.int .i64 0))⟩, []⟩]
def r31_1 : List RegE := [
  ⟨0, ⟨(some 3), none, .mov (.tmp 0)⟩, []⟩,
  ⟨1, ⟨(some 4), none, .bin .eql .ptr (.tmp 3) (.const .nilp)⟩, []⟩]
def r31_2 : List RegE := [
  ⟨0, ⟨(some 2), none, .mov (.const (.int .i64 0))⟩, []⟩]
def r31_3 : List RegE := [
  ⟨0, ⟨(some 5), none, .mov (.tmp 0)⟩, []⟩,
  ⟨1, ⟨(some 6), none, .nilchk (.tmp 5)⟩, []⟩,
  ⟨2, ⟨(some 7), none, .faddr 0 (.tmp 6)⟩, []⟩,
  ⟨3, ⟨(some 8), none, .load none (.tmp 7)⟩, []⟩,
  ⟨4, ⟨(some 9), none, .len true (.tmp 8)⟩, []⟩,
  ⟨5, ⟨(some 10), none, .bin .mul .basic (.const (.int .i64 8)) (.tmp 9)⟩, []⟩,
  ⟨6, ⟨(some 11), none, .mov (.tmp 0)⟩, []⟩,
  ⟨7, ⟨(some 12), none, .nilchk (.tmp 11)⟩, []⟩,
  ⟨8, ⟨(some 13), none, .faddr 2 (.tmp 12)⟩, []⟩,
  ⟨9, ⟨(some 14), none, .load none (.tmp 13)⟩, []⟩,
  ⟨10, ⟨(some 15), none, .bin .add .basic (.tmp 10) (.tmp 14)⟩, []⟩,
  ⟨11, ⟨(some 2), none, .mov (.tmp 15)⟩, []⟩]
def k31 : List (Option (List Nat)) := [none, none, none, none, some [2]]
def c31 : AFunc := ⟨16, .seq (.region 1 r31_0) (.seq (.seq (.region 2 r31_1) (.cond (.tmp 4) (.seq (.region 1 r31_2) .ret) .skip)) (.seq (.seq (.region 12 r31_3) (.forget [2])) .ret)), [.tmp 2]⟩
theorem e31 : compFuncA Try.prog 31 k31 = some c31 := by kernel_rfl
/-! 32: (*vitrine/vitrineref01.Reader).Left -/
def r32_0 : List RegE := [
  ⟨0, ⟨(some 2), none, .mov (.const (.int .i64 0))⟩, []⟩]
def r32_1 : List RegE := [
  ⟨0, ⟨(some 3), none, .mov (.tmp 0)⟩, []⟩,
  ⟨1, ⟨(some 4), none, .nilchk (.tmp 3)⟩, []⟩,
  ⟨2, ⟨(some 5), none, .faddr 0 (.tmp 4)⟩, []⟩,
  ⟨3, ⟨(some 6), none, .load none (.tmp 5)⟩, []⟩,
  ⟨4, ⟨(some 7), none, .len true (.tmp 6)⟩, []⟩,
  ⟨5, ⟨(some 8), none, .bin .mul .basic (.const (.int .i64 8)) (.tmp 7)⟩, []⟩,
  ⟨6, ⟨(some 9), none, .mov (.tmp 0)⟩, []⟩,
  ⟨7, ⟨(some 10), none, .nilchk (.tmp 9)⟩, []⟩,
  ⟨8, ⟨(some 11), none, .faddr 1 (.tmp 10)⟩, []⟩,
  ⟨9, ⟨(some 12), none, .load none (.tmp 11)⟩, []⟩,
  ⟨10, ⟨(some 13), none, .bin .sub .basic (.tmp 8) (.tmp 12)⟩, []⟩,
  ⟨11, ⟨(some 2), none, .mov (.tmp 13)⟩, []⟩]
def k32 : List (Option (List Nat)) := [none, some [2]]
def c32 : AFunc := ⟨14, .seq (.region 1 r32_0) (.seq (.seq (.region 12 r32_1) (.forget [2])) .ret), [.tmp 2]⟩
theorem e32 : compFuncA Try.prog 32 k32 = some c32 := by kernel_rfl
/-! 33: vitrine/bits.New -/
def r33_0 : List RegE := [
  ⟨0, ⟨(some 0), none, .mov (.const .nilp)⟩, []⟩]
def r33_1 : List RegE := [
  ⟨0, ⟨(some 1), none, .build [.nils, .int .i64 0, .int .i64 0] []⟩, []⟩,
  ⟨1, ⟨(some 2), none, .box (.tmp 1)⟩, []⟩,
  ⟨2, ⟨(some 0), none, .mov (.tmp 2)⟩, []⟩]
def k33 : List (Option (List Nat)) := [none, none]
def c33 : AFunc := ⟨3, .seq (.region 1 r33_0) (.seq (.region 3 r33_1) .ret), [.tmp 0]⟩
theorem e33 : compFuncA Try.prog 33 k33 = some c33 := by kernel_rfl
/-! 34: (*vitrine/bits.Writer).Bytes -/
def r34_0 : List RegE := [
  ⟨0, ⟨(some 4), none, .mov (.tmp 0)⟩, []⟩,
  ⟨1, ⟨(some 5), none, .bin .eql .ptr (.tmp 4) (.const .nilp)⟩, []⟩]
def r34_1 : List RegE := [
  ⟨0, ⟨(some 6), none, .mov (.tmp 0)⟩, []⟩,
  ⟨1, ⟨(some 7), none, .mov (.tmp 0)⟩, []⟩,
  ⟨2, ⟨(some 8), none, .nilchk (.tmp 7)⟩, []⟩,
  ⟨3, ⟨(some 9), none, .faddr 2 (.tmp 8)⟩, []⟩,
  ⟨4, ⟨(some 10), none, .load none (.tmp 9)⟩, []⟩,
  ⟨5, ⟨(some 11), none, .bin .sub .basic (.const (.int .i64 8)) (.tmp 10)⟩, []⟩,
  ⟨6, ⟨(some 12), none, .bin .rem .basic (.tmp 11) (.const (.int .i64 8))⟩, []⟩,
  ⟨7, ⟨(some 13), none, .call 37 [.tmp 6, .const (.int .i64 0), .tmp 12]⟩, []⟩]
def r34_2 : List RegE := [
  ⟨0, ⟨(some 14), none, .mov (.tmp 0)⟩, []⟩,
  ⟨1, ⟨(some 15), none, .mov (.tmp 0)⟩, []⟩,
  ⟨2, ⟨(some 16), none, .nilchk (.tmp 15)⟩, []⟩,
  ⟨3, ⟨(some 17), none, .faddr 0 (.tmp 16)⟩, []⟩,
  ⟨4, ⟨(some 18), none, .load none (.tmp 17)⟩, []⟩,
  ⟨5, ⟨(some 19), none, .mov (.tmp 1)⟩, []⟩,
  ⟨6, ⟨(some 20), none, .append 1 1 (.tmp 18) (.tmp 19)⟩, []⟩,
  ⟨7, ⟨(some 21), none, .nilchk (.tmp 14)⟩, []⟩,
  ⟨8, ⟨(some 22), none, .faddr 0 (.tmp 21)⟩, []⟩,
  ⟨9, ⟨none, none, .store 1 (.tmp 22) (.tmp 20)⟩, []⟩]
def k34 : List (Option (List Nat)) := [none, none, some [0, 1], some []]
def c34 : AFunc := ⟨23, .seq (.seq (.region 2 r34_0) (.cond (.tmp 5) .ret .skip)) (.seq (.seq (.region 8 r34_1) (.forget [0, 1])) (.seq (.region 10 r34_2) (.forget []))), []⟩
theorem e34 : compFuncA Try.prog 34 k34 = some c34 := by kernel_rfl
/-! 35: (vitrine/vitrinelaw01.Op).text -/
def r35_0 : List RegE := [
  ⟨0, ⟨(some 1), none, .box (.tmp 0)⟩, []⟩,
  ⟨1, ⟨(some 2), none, .mov (.const (.str ⟨#[]⟩))⟩, []⟩]
def r35_1 : List RegE := [
  ⟨0, ⟨(some 5), none, .faddr 1 (.tmp 1)⟩, []⟩,
  ⟨1, ⟨(some 6), none, .load none (.tmp 5)⟩, []⟩,
  ⟨2, ⟨(some 7), none, .minmax true (.tmp 6) [.const (.int .i64 0)]⟩, []⟩,
  ⟨3, ⟨(some 8), none, .minmax false (.tmp 7) [.const (.int .i64 50)]⟩, []⟩,
  ⟨4, ⟨(some 9), none, .make 1 1 [.int .u8 0] (.tmp 8) (.tmp 8)⟩, []⟩,
  ⟨5, ⟨(some 3), none, .mov (.tmp 9)⟩, []⟩]
def r35_2 : List RegE := [
  ⟨0, ⟨(some 4), none, .mov (.const (.int .i64 0))⟩, []⟩]
def r35_3 : List RegE := [
  ⟨0, ⟨(some 10), none, .mov (.tmp 4)⟩, []⟩,
  ⟨1, ⟨(some 11), none, .mov (.tmp 3)⟩, []⟩,
  ⟨2, ⟨(some 12), none, .len false (.tmp 11)⟩, []⟩,
  ⟨3, ⟨(some 13), none, .bin .lss .basic (.tmp 10) (.tmp 12)⟩, []⟩]
def r35_4 : List RegE := [
  ⟨0, ⟨(some 16), none, .mov (.tmp 3)⟩, []⟩,
  ⟨1, ⟨(some 17), none, .mov (.tmp 4)⟩, []⟩,
  ⟨2, ⟨(some 18), none, .faddr 2 (.tmp 1)⟩, []⟩,
  ⟨3, ⟨(some 19), none, .load none (.tmp 18)⟩, []⟩,
  ⟨4, ⟨(some 20), none, .mov (.tmp 4)⟩, []⟩,
  ⟨5, ⟨(some 21), none, .bin .add .basic (.tmp 19) (.tmp 20)⟩, []⟩,
  ⟨6, ⟨(some 22), none, .conv (.toInt .u8) (.tmp 21)⟩, []⟩,
  ⟨7, ⟨(some 23), none, .iaddrS 1 (.tmp 16) (.tmp 17)⟩, []⟩,
  ⟨8, ⟨none, none, .store 1 (.tmp 23) (.tmp 22)⟩, []⟩]
def r35_5 : List RegE := [
  ⟨0, ⟨(some 14), none, .mov (.tmp 4)⟩, []⟩,
  ⟨1, ⟨(some 15), none, .bin .add .basic (.tmp 14) (.const (.int .i64 1))⟩, []⟩,
  ⟨2, ⟨(some 4), none, .mov (.tmp 15)⟩, []⟩]
def l35_6 : ACode := .seq (.seq (.seq (.region 4 r35_3) (.cond (.tmp 13) .skip (.exit 0))) (.seq (.block 1 (.seq (.region 9 r35_4) (.forget [1, 3, 4]))) (.region 3 r35_5))) (.forget [1, 3, 4])
def r35_7 : List RegE := [
  ⟨0, ⟨(some 24), none, .mov (.tmp 3)⟩, []⟩,
  ⟨1, ⟨(some 25), none, .conv .bytesStr (.tmp 24)⟩, []⟩,
  ⟨2, ⟨(some 2), none, .mov (.tmp 25)⟩, []⟩]
def k35 : List (Option (List Nat)) := [none, some [1, 3], none, some [3], some [1, 3, 4], none, none, none, some [1, 3, 4], none, none]
def c35 : AFunc := ⟨26, .seq (.region 2 r35_0) (.seq (.seq (.region 6 r35_1) (.forget [1, 3])) (.seq (.seq (.region 1 r35_2) (.seq (.block 0 (.seq (.forget [1, 3, 4]) (.loop l35_6))) (.forget [3]))) (.seq (.region 3 r35_7) .ret))), [.tmp 2]⟩
theorem e35 : compFuncA Try.prog 35 k35 = some c35 := by kernel_rfl
/-! 36: (*vitrine/vitrineref01.Writer).Bytes -/
def r36_0 : List RegE := [
  ⟨0, ⟨(some 4), none, .mov (.tmp 0)⟩, []⟩,
  ⟨1, ⟨(some 5), none, .mov (.tmp 0)⟩, []⟩,
  ⟨2, ⟨(some 6), none, .nilchk (.tmp 5)⟩, []⟩,
  ⟨3, ⟨(some 7), none, .faddr 0 (.tmp 6)⟩, []⟩,
  ⟨4, ⟨(some 8), none, .load none (.tmp 7)⟩, []⟩,
  ⟨5, ⟨(some 9), none, .mov (.tmp 1)⟩, []⟩,
  ⟨6, ⟨(some 10), none, .append 1 1 (.tmp 8) (.tmp 9)⟩, []⟩,
  ⟨7, ⟨(some 11), none, .nilchk (.tmp 4)⟩, []⟩,
  ⟨8, ⟨(some 12), none, .faddr 0 (.tmp 11)⟩, []⟩,
  ⟨9, ⟨none, none, .store 1 (.tmp 12) (.tmp 10)⟩, []⟩]
def r36_1 : List RegE := [
  ⟨0, ⟨(some 13), none, .mov (.tmp 0)⟩, []⟩,
  ⟨1, ⟨(some 14), none, .mov (.tmp 0)⟩, []⟩,
  ⟨2, ⟨(some 15), none, .nilchk (.tmp 14)⟩, []⟩,
  ⟨3, ⟨(some 16), none, .faddr 0 (.tmp 15)⟩, []⟩,
  ⟨4, ⟨(some 17), none, .load none (.tmp 16)⟩, []⟩,
  ⟨5, ⟨(some 18), none, .len false (.tmp 17)⟩, []⟩,
  ⟨6, ⟨(some 19), none, .bin .mul .basic (.const (.int .i64 8)) (.tmp 18)⟩, []⟩,
  ⟨7, ⟨(some 20), none, .nilchk (.tmp 13)⟩, []⟩,
  ⟨8, ⟨(some 21), none, .faddr 1 (.tmp 20)⟩, []⟩,
  ⟨9, ⟨none, none, .store 1 (.tmp 21) (.tmp 19)⟩, []⟩]
def k36 : List (Option (List Nat)) := [some [0], some []]
def c36 : AFunc := ⟨22, .seq (.seq (.region 10 r36_0) (.forget [0])) (.seq (.region 10 r36_1) (.forget [])), []⟩
theorem e36 : compFuncA Try.prog 36 k36 = some c36 := by kernel_rfl
/-! 37: (*vitrine/bits.Writer).Bits -/
def r37_0 : List RegE := [
  ⟨0, ⟨(some 6), none, .mov (.tmp 0)⟩, []⟩,
  ⟨1, ⟨(some 7), none, .bin .eql .ptr (.tmp 6) (.const .nilp)⟩, []⟩,
  ⟨2, ⟨(some 8), none, .mov (.tmp 7)⟩, []⟩,
  ⟨3, ⟨(some 9), (some (8, false)), .mov (.tmp 2)⟩, []⟩,
  ⟨4, ⟨(some 10), (some (8, false)), .bin .lss .basic (.tmp 9) (.const (.int .i64 0))⟩, []⟩,
  ⟨5, ⟨(some 11), none, .pick (.tmp 8) (.const (.bool true)) (.tmp 10)⟩, []⟩,
  ⟨6, ⟨(some 12), none, .mov (.tmp 11)⟩, []⟩,
  ⟨7, ⟨(some 13), (some (12, false)), .mov (.tmp 2)⟩, []⟩,
  ⟨8, ⟨(some 14), (some (12, false)), .bin .gtr .basic (.tmp 13) (.const (.int .i64 24))⟩, []⟩,
  ⟨9, ⟨(some 15), none, .pick (.tmp 12) (.const (.bool true)) (.tmp 14)⟩, []⟩]
def r37_1 : List RegE := [
  ⟨0, ⟨(some 16), none, .mov (.tmp 0)⟩, []⟩,
  ⟨1, ⟨(some 17), none, .nilchk (.tmp 16)⟩, []⟩,
  ⟨2, ⟨(some 18), none, .faddr 1 (.tmp 17)⟩, []⟩,
  ⟨3, ⟨(some 19), none, .load none (.tmp 18)⟩, []⟩,
  ⟨4, ⟨(some 20), none, .mov (.tmp 1)⟩, []⟩,
  ⟨5, ⟨(some 21), none, .mov (.tmp 2)⟩, []⟩,
  ⟨6, ⟨(some 22), none, .bin .shl .basic (.const (.int .i64 1)) (.tmp 21)⟩, []⟩,
  ⟨7, ⟨(some 23), none, .bin .sub .basic (.tmp 22) (.const (.int .i64 1))⟩, []⟩,
  ⟨8, ⟨(some 24), none, .bin .and .basic (.tmp 20) (.tmp 23)⟩, []⟩,
  ⟨9, ⟨(some 25), none, .mov (.tmp 0)⟩, []⟩,
  ⟨10, ⟨(some 26), none, .nilchk (.tmp 25)⟩, []⟩,
  ⟨11, ⟨(some 27), none, .faddr 2 (.tmp 26)⟩, []⟩,
  ⟨12, ⟨(some 28), none, .load none (.tmp 27)⟩, []⟩,
  ⟨13, ⟨(some 29), none, .bin .shl .basic (.tmp 24) (.tmp 28)⟩, []⟩,
  ⟨14, ⟨(some 30), none, .bin .or .basic (.tmp 19) (.tmp 29)⟩, []⟩,
  ⟨15, ⟨(some 31), none, .nilchk (.tmp 16)⟩, []⟩,
  ⟨16, ⟨(some 32), none, .faddr 1 (.tmp 31)⟩, []⟩,
  ⟨17, ⟨none, none, .store 1 (.tmp 32) (.tmp 30)⟩, []⟩]
def r37_2 : List RegE := [
  ⟨0, ⟨(some 33), none, .mov (.tmp 0)⟩, []⟩,
  ⟨1, ⟨(some 34), none, .nilchk (.tmp 33)⟩, []⟩,
  ⟨2, ⟨(some 35), none, .faddr 2 (.tmp 34)⟩, []⟩,
  ⟨3, ⟨(some 36), none, .load none (.tmp 35)⟩, []⟩,
  ⟨4, ⟨(some 37), none, .mov (.tmp 2)⟩, []⟩,
  ⟨5, ⟨(some 38), none, .bin .add .basic (.tmp 36) (.tmp 37)⟩, []⟩,
  ⟨6, ⟨(some 39), none, .nilchk (.tmp 33)⟩, []⟩,
  ⟨7, ⟨(some 40), none, .faddr 2 (.tmp 39)⟩, []⟩,
  ⟨8, ⟨none, none, .store 1 (.tmp 40) (.tmp 38)⟩, []⟩]
def r37_3 : List RegE := [
  ⟨0, ⟨(some 41), none, .mov (.tmp 0)⟩, []⟩,
  ⟨1, ⟨(some 42), none, .nilchk (.tmp 41)⟩, []⟩,
  ⟨2, ⟨(some 43), none, .faddr 2 (.tmp 42)⟩, []⟩,
  ⟨3, ⟨(some 44), none, .load none (.tmp 43)⟩, []⟩,
  ⟨4, ⟨(some 45), none, .bin .geq .basic (.tmp 44) (.const (.int .i64 8))⟩, []⟩]
def r37_4 : List RegE := [
  ⟨0, ⟨(some 53), none, .mov (.tmp 0)⟩, []⟩,
  ⟨1, ⟨(some 54), none, .mov (.tmp 0)⟩, []⟩,
  ⟨2, ⟨(some 55), none, .nilchk (.tmp 54)⟩, []⟩,
  ⟨3, ⟨(some 56), none, .faddr 0 (.tmp 55)⟩, []⟩,
  ⟨4, ⟨(some 57), none, .load none (.tmp 56)⟩, []⟩,
  ⟨5, ⟨(some 58), none, .mov (.tmp 0)⟩, []⟩,
  ⟨6, ⟨(some 59), none, .nilchk (.tmp 58)⟩, []⟩,
  ⟨7, ⟨(some 60), none, .faddr 1 (.tmp 59)⟩, []⟩,
  ⟨8, ⟨(some 61), none, .load none (.tmp 60)⟩, []⟩,
  ⟨9, ⟨(some 62), none, .conv (.toInt .u8) (.tmp 61)⟩, []⟩,
  ⟨10, ⟨(some 63), none, .newSlice 1 [.int .u8 0] [(0, 1, .tmp 62)]⟩, []⟩,
  ⟨11, ⟨(some 64), none, .append 1 1 (.tmp 57) (.tmp 63)⟩, []⟩,
  ⟨12, ⟨(some 65), none, .nilchk (.tmp 53)⟩, []⟩,
  ⟨13, ⟨(some 66), none, .faddr 0 (.tmp 65)⟩, []⟩,
  ⟨14, ⟨none, none, .store 1 (.tmp 66) (.tmp 64)⟩, []⟩]
def r37_5 : List RegE := [
  ⟨0, ⟨(some 67), none, .mov (.tmp 0)⟩, []⟩,
  ⟨1, ⟨(some 68), none, .nilchk (.tmp 67)⟩, []⟩,
  ⟨2, ⟨(some 69), none, .faddr 1 (.tmp 68)⟩, []⟩,
  ⟨3, ⟨(some 70), none, .load none (.tmp 69)⟩, []⟩,
  ⟨4, ⟨(some 71), none, .bin .shr .basic (.tmp 70) (.const (.int .u64 8))⟩, []⟩,
  ⟨5, ⟨(some 72), none, .nilchk (.tmp 67)⟩, []⟩,
  ⟨6, ⟨(some 73), none, .faddr 1 (.tmp 72)⟩, []⟩,
  ⟨7, ⟨none, none, .store 1 (.tmp 73) (.tmp 71)⟩, []⟩]
def r37_6 : List RegE := [
  ⟨0, ⟨(some 46), none, .mov (.tmp 0)⟩, []⟩,
  ⟨1, ⟨(some 47), none, .nilchk (.tmp 46)⟩, []⟩,
  ⟨2, ⟨(some 48), none, .faddr 2 (.tmp 47)⟩, []⟩,
  ⟨3, ⟨(some 49), none, .load none (.tmp 48)⟩, []⟩,
  ⟨4, ⟨(some 50), none, .bin .sub .basic (.tmp 49) (.const (.int .i64 8))⟩, []⟩,
  ⟨5, ⟨(some 51), none, .nilchk (.tmp 46)⟩, []⟩,
  ⟨6, ⟨(some 52), none, .faddr 2 (.tmp 51)⟩, []⟩,
  ⟨7, ⟨none, none, .store 1 (.tmp 52) (.tmp 50)⟩, []⟩]
def l37_7 : ACode := .seq (.seq (.seq (.seq (.region 5 r37_3) (.forget [0, 45])) (.cond (.tmp 45) .skip (.exit 0))) (.seq (.block 1 (.seq (.seq (.region 15 r37_4) (.forget [0])) (.seq (.region 8 r37_5) (.forget [0])))) (.seq (.region 8 r37_6) (.forget [0])))) (.forget [0])
def k37 : List (Option (List Nat)) := [some [0, 1, 2, 15], none, some [0, 2], some [0], some [], some [0], some [0, 45], none, none, some [0], some [0], some [0]]
def c37 : AFunc := ⟨74, .seq (.seq (.seq (.region 10 r37_0) (.forget [0, 1, 2, 15])) (.cond (.tmp 15) .ret .skip)) (.seq (.seq (.region 18 r37_1) (.forget [0, 2])) (.seq (.seq (.region 9 r37_2) (.forget [0])) (.seq (.block 0 (.seq (.forget [0]) (.loop l37_7))) (.forget [])))), []⟩
theorem e37 : compFuncA Try.prog 37 k37 = some c37 := by kernel_rfl
/-! 38: (*vitrine/vitrineref01.Writer).Bits -/
def r38_0 : List RegE := [
  ⟨0, ⟨(some 7), none, .mov (.tmp 2)⟩, []⟩,
  ⟨1, ⟨(some 8), none, .bin .lss .basic (.tmp 7) (.const (.int .i64 0))⟩, []⟩,
  ⟨2, ⟨(some 9), none, .mov (.tmp 8)⟩, []⟩,
  ⟨3, ⟨(some 10), (some (9, false)), .mov (.tmp 2)⟩, []⟩,
  ⟨4, ⟨(some 11), (some (9, false)), .bin .gtr .basic (.tmp 10) (.const (.int .i64 24))⟩, []⟩,
  ⟨5, ⟨(some 12), none, .pick (.tmp 9) (.const (.bool true)) (.tmp 11)⟩, []⟩]
def r38_1 : List RegE := [
  ⟨0, ⟨(some 6), none, .mov (.const (.int .i64 0))⟩, []⟩]
def r38_2 : List RegE := [
  ⟨0, ⟨(some 13), none, .mov (.tmp 6)⟩, []⟩,
  ⟨1, ⟨(some 14), none, .mov (.tmp 2)⟩, []⟩,
  ⟨2, ⟨(some 15), none, .bin .lss .basic (.tmp 13) (.tmp 14)⟩, []⟩]
def r38_3 : List RegE := [
  ⟨0, ⟨(some 18), none, .mov (.tmp 0)⟩, []⟩,
  ⟨1, ⟨(some 19), none, .nilchk (.tmp 18)⟩, []⟩,
  ⟨2, ⟨(some 20), none, .faddr 1 (.tmp 19)⟩, []⟩,
  ⟨3, ⟨(some 21), none, .load none (.tmp 20)⟩, []⟩,
  ⟨4, ⟨(some 22), none, .bin .rem .basic (.tmp 21) (.const (.int .i64 8))⟩, []⟩,
  ⟨5, ⟨(some 23), none, .bin .eql .basic (.tmp 22) (.const (.int .i64 0))⟩, []⟩]
def r38_4 : List RegE := [
  ⟨0, ⟨(some 24), none, .mov (.tmp 0)⟩, []⟩,
  ⟨1, ⟨(some 25), none, .mov (.tmp 0)⟩, []⟩,
  ⟨2, ⟨(some 26), none, .nilchk (.tmp 25)⟩, []⟩,
  ⟨3, ⟨(some 27), none, .faddr 0 (.tmp 26)⟩, []⟩,
  ⟨4, ⟨(some 28), none, .load none (.tmp 27)⟩, []⟩,
  ⟨5, ⟨(some 29), none, .newSlice 1 [.int .u8 0] [(0, 1, .const (.int .u8 0))]⟩, []⟩,
  ⟨6, ⟨(some 30), none, .append 1 1 (.tmp 28) (.tmp 29)⟩, []⟩,
  ⟨7, ⟨(some 31), none, .nilchk (.tmp 24)⟩, []⟩,
  ⟨8, ⟨(some 32), none, .faddr 0 (.tmp 31)⟩, []⟩,
  ⟨9, ⟨none, none, .store 1 (.tmp 32) (.tmp 30)⟩, []⟩]
def r38_5 : List RegE := [
  ⟨0, ⟨(some 33), none, .mov (.tmp 0)⟩, []⟩,
  ⟨1, ⟨(some 34), none, .nilchk (.tmp 33)⟩, []⟩,
  ⟨2, ⟨(some 35), none, .faddr 0 (.tmp 34)⟩, []⟩,
  ⟨3, ⟨(some 36), none, .load none (.tmp 35)⟩, []⟩,
  ⟨4, ⟨(some 37), none, .mov (.tmp 0)⟩, []⟩,
  ⟨5, ⟨(some 38), none, .nilchk (.tmp 37)⟩, []⟩,
  ⟨6, ⟨(some 39), none, .faddr 1 (.tmp 38)⟩, []⟩,
  ⟨7, ⟨(some 40), none, .load none (.tmp 39)⟩, []⟩,
  ⟨8, ⟨(some 41), none, .bin .quo .basic (.tmp 40) (.const (.int .i64 8))⟩, []⟩,
  ⟨9, ⟨(some 42), none, .mov (.tmp 0)⟩, []⟩,
  ⟨10, ⟨(some 43), none, .nilchk (.tmp 42)⟩, []⟩,
  ⟨11, ⟨(some 44), none, .faddr 0 (.tmp 43)⟩, []⟩,
  ⟨12, ⟨(some 45), none, .load none (.tmp 44)⟩, []⟩,
  ⟨13, ⟨(some 46), none, .mov (.tmp 0)⟩, []⟩,
  ⟨14, ⟨(some 47), none, .nilchk (.tmp 46)⟩, []⟩,
  ⟨15, ⟨(some 48), none, .faddr 1 (.tmp 47)⟩, []⟩,
  ⟨16, ⟨(some 49), none, .load none (.tmp 48)⟩, []⟩,
  ⟨17, ⟨(some 50), none, .bin .quo .basic (.tmp 49) (.const (.int .i64 8))⟩, []⟩,
  ⟨18, ⟨(some 51), none, .iaddrS 1 (.tmp 45) (.tmp 50)⟩, []⟩,
  ⟨19, ⟨(some 52), none, .load none (.tmp 51)⟩, []⟩,
  ⟨20, ⟨(some 53), none, .mov (.tmp 1)⟩, []⟩,
  ⟨21, ⟨(some 54), none, .mov (.tmp 6)⟩, []⟩,
  ⟨22, ⟨(some 55), none, .bin .shr .basic (.tmp 53) (.tmp 54)⟩, []⟩,
  ⟨23, ⟨(some 56), none, .bin .and .basic (.tmp 55) (.const (.int .i64 1))⟩, []⟩,
  ⟨24, ⟨(some 57), none, .conv (.toInt .u8) (.tmp 56)⟩, []⟩,
  ⟨25, ⟨(some 58), none, .mov (.tmp 0)⟩, []⟩,
  ⟨26, ⟨(some 59), none, .nilchk (.tmp 58)⟩, []⟩,
  ⟨27, ⟨(some 60), none, .faddr 1 (.tmp 59)⟩, []⟩,
  ⟨28, ⟨(some 61), none, .load none (.tmp 60)⟩, []⟩,
  ⟨29, ⟨(some 62), none, .bin .rem .basic (.tmp 61) (.const (.int .i64 8))⟩, []⟩,
  ⟨30, ⟨(some 63), none, .bin .shl .basic (.tmp 57) (.tmp 62)⟩, []⟩,
  ⟨31, ⟨(some 64), none, .bin .or .basic (.tmp 52) (.tmp 63)⟩, []⟩,
  ⟨32, ⟨(some 65), none, .iaddrS 1 (.tmp 36) (.tmp 41)⟩, []⟩,
  ⟨33, ⟨none, none, .store 1 (.tmp 65) (.tmp 64)⟩, []⟩]
def r38_6 : List RegE := [
  ⟨0, ⟨(some 66), none, .mov (.tmp 0)⟩, []⟩,
  ⟨1, ⟨(some 67), none, .mov (.tmp 0)⟩, []⟩,
  ⟨2, ⟨(some 68), none, .nilchk (.tmp 67)⟩, []⟩,
  ⟨3, ⟨(some 69), none, .faddr 1 (.tmp 68)⟩, []⟩,
  ⟨4, ⟨(some 70), none, .load none (.tmp 69)⟩, []⟩,
  ⟨5, ⟨(some 71), none, .bin .add .basic (.tmp 70) (.const (.int .i64 1))⟩, []⟩,
  ⟨6, ⟨(some 72), none, .nilchk (.tmp 66)⟩, []⟩,
  ⟨7, ⟨(some 73), none, .faddr 1 (.tmp 72)⟩, []⟩,
  ⟨8, ⟨none, none, .store 1 (.tmp 73) (.tmp 71)⟩, []⟩]
def r38_7 : List RegE := [
  ⟨0, ⟨(some 16), none, .mov (.tmp 6)⟩, []⟩,
  ⟨1, ⟨(some 17), none, .bin .add .basic (.tmp 16) (.const (.int .i64 1))⟩, []⟩,
  ⟨2, ⟨(some 6), none, .mov (.tmp 17)⟩, []⟩]
def l38_8 : ACode := .seq (.seq (.seq (.region 3 r38_2) (.cond (.tmp 15) .skip (.exit 0))) (.seq (.seq (.block 1 (.seq (.seq (.seq (.region 6 r38_3) (.forget [0, 1, 2, 6, 23])) (.seq (.cond (.tmp 23) (.seq (.region 10 r38_4) (.forget [0, 1, 2, 6])) .skip) (.forget [0, 1, 2, 6]))) (.seq (.seq (.region 34 r38_5) (.forget [0, 1, 2, 6])) (.seq (.region 9 r38_6) (.forget [0, 1, 2, 6]))))) (.forget [0, 1, 2, 6])) (.region 3 r38_7))) (.forget [0, 1, 2, 6])
def k38 : List (Option (List Nat)) := [some [0, 1, 2, 12], none, none, some [], some [0, 1, 2, 6], none, none, some [0, 1, 2, 6], some [0, 1, 2, 6, 23], some [0, 1, 2, 6], some [0, 1, 2, 6], some [0, 1, 2, 6], some [0, 1, 2, 6], none]
def c38 : AFunc := ⟨74, .seq (.seq (.seq (.region 6 r38_0) (.forget [0, 1, 2, 12])) (.cond (.tmp 12) .ret .skip)) (.seq (.region 1 r38_1) (.seq (.block 0 (.seq (.forget [0, 1, 2, 6]) (.loop l38_8))) (.forget []))), []⟩
theorem e38 : compFuncA Try.prog 38 k38 = some c38 := by kernel_rfl
/-! 39: (*vitrine/bits.Writer).Text -/
def r39_0 : List RegE := [
  ⟨0, ⟨(some 2), none, .mov (.const (.str ⟨#[]⟩))⟩, []⟩]
def r39_1 : List RegE := [
  ⟨0, ⟨(some 4), none, .mov (.tmp 0)⟩, []⟩,
  ⟨1, ⟨(some 5), none, .bin .eql .ptr (.tmp 4) (.const .nilp)⟩, []⟩]
def r39_2 : List RegE := [
  ⟨0, ⟨(some 2), none, .mov (.const (.str ⟨#[]⟩))⟩, []⟩]
def r39_3 : List RegE := [
  ⟨0, ⟨(some 6), none, .mov (.tmp 0)⟩, []⟩,
  ⟨1, ⟨(some 7), none, .nilchk (.tmp 6)⟩, []⟩,
  ⟨2, ⟨(some 8), none, .faddr 0 (.tmp 7)⟩, []⟩,
  ⟨3, ⟨(some 9), none, .load none (.tmp 8)⟩, []⟩,
  ⟨4, ⟨(some 10), none, .conv .bytesStr (.tmp 9)⟩, []⟩,
  ⟨5, ⟨(some 3), none, .mov (.tmp 10)⟩, []⟩]
def r39_4 : List RegE := [
  ⟨0, ⟨(some 11), none, .mov (.tmp 0)⟩, []⟩,
  ⟨1, ⟨(some 12), none, .nilchk (.tmp 11)⟩, []⟩,
  ⟨2, ⟨(some 13), none, .faddr 2 (.tmp 12)⟩, []⟩,
  ⟨3, ⟨(some 14), none, .load none (.tmp 13)⟩, []⟩,
  ⟨4, ⟨(some 15), none, .bin .gtr .basic (.tmp 14) (.const (.int .i64 0))⟩, []⟩]
def r39_5 : List RegE := [
  ⟨0, ⟨(some 16), none, .mov (.tmp 3)⟩, []⟩,
  ⟨1, ⟨(some 17), none, .mov (.tmp 0)⟩, []⟩,
  ⟨2, ⟨(some 18), none, .nilchk (.tmp 17)⟩, []⟩,
  ⟨3, ⟨(some 19), none, .faddr 1 (.tmp 18)⟩, []⟩,
  ⟨4, ⟨(some 20), none, .load none (.tmp 19)⟩, []⟩,
  ⟨5, ⟨(some 21), none, .conv (.toInt .u8) (.tmp 20)⟩, []⟩,
  ⟨6, ⟨(some 22), none, .newSlice 1 [.int .u8 0] [(0, 1, .tmp 21)]⟩, []⟩,
  ⟨7, ⟨(some 23), none, .conv .bytesStr (.tmp 22)⟩, []⟩,
  ⟨8, ⟨(some 24), none, .bin .add .basic (.tmp 16) (.tmp 23)⟩, []⟩,
  ⟨9, ⟨(some 3), none, .mov (.tmp 24)⟩, []⟩]
def r39_6 : List RegE := [
  ⟨0, ⟨(some 25), none, .mov (.tmp 3)⟩, []⟩,
  ⟨1, ⟨(some 2), none, .mov (.tmp 25)⟩, []⟩]
def k39 : List (Option (List Nat)) := [none, none, none, none, some [0, 3], some [0, 3, 15], some [3], some [3], none]
def c39 : AFunc := ⟨26, .seq (.region 1 r39_0) (.seq (.seq (.region 2 r39_1) (.cond (.tmp 5) (.seq (.region 1 r39_2) .ret) .skip)) (.seq (.seq (.region 6 r39_3) (.forget [0, 3])) (.seq (.seq (.seq (.region 5 r39_4) (.forget [0, 3, 15])) (.seq (.cond (.tmp 15) (.seq (.region 10 r39_5) (.forget [3])) .skip) (.forget [3]))) (.seq (.region 2 r39_6) .ret)))), [.tmp 2]⟩
theorem e39 : compFuncA Try.prog 39 k39 = some c39 := by kernel_rfl
/-! 40: (*vitrine/vitrineref01.Writer).Text -/
def r40_0 : List RegE := [
  ⟨0, ⟨(some 2), none, .mov (.const (.str ⟨#[]⟩))⟩, []⟩]
def r40_1 : List RegE := [
  ⟨0, ⟨(some 3), none, .mov (.tmp 0)⟩, []⟩,
  ⟨1, ⟨(some 4), none, .nilchk (.tmp 3)⟩, []⟩,
  ⟨2, ⟨(some 5), none, .faddr 0 (.tmp 4)⟩, []⟩,
  ⟨3, ⟨(some 6), none, .load none (.tmp 5)⟩, []⟩,
  ⟨4, ⟨(some 7), none, .conv .bytesStr (.tmp 6)⟩, []⟩,
  ⟨5, ⟨(some 2), none, .mov (.tmp 7)⟩, []⟩]
def k40 : List (Option (List Nat)) := [none, some [2]]
def c40 : AFunc := ⟨8, .seq (.region 1 r40_0) (.seq (.seq (.region 6 r40_1) (.forget [2])) .ret), [.tmp 2]⟩
theorem e40 : compFuncA Try.prog 40 k40 = some c40 := by kernel_rfl
/-! 41: vitrine/lz.Tokens$1 -/
def r41_0 : List RegE := [
  ⟨0, ⟨(some 8), none, .mov (.tmp 0)⟩, []⟩,
  ⟨1, ⟨(some 6), none, .mov (.tmp 8)⟩, []⟩]
def r41_1 : List RegE := [
  ⟨0, ⟨(some 9), none, .mov (.tmp 6)⟩, []⟩,
  ⟨1, ⟨(some 10), none, .mov (.tmp 0)⟩, []⟩,
  ⟨2, ⟨(some 11), none, .mov (.tmp 1)⟩, []⟩,
  ⟨3, ⟨(some 12), none, .bin .add .basic (.tmp 10) (.tmp 11)⟩, []⟩,
  ⟨4, ⟨(some 13), none, .bin .lss .basic (.tmp 9) (.tmp 12)⟩, []⟩,
  ⟨5, ⟨(some 14), none, .mov (.tmp 13)⟩, []⟩,
  ⟨6, ⟨(some 15), (some (14, true)), .mov (.tmp 6)⟩, []⟩,
  ⟨7, ⟨(some 16), (some (14, true)), .bin .add .basic (.tmp 15) (.const (.int .i64 3))⟩, []⟩,
  ⟨8, ⟨(some 17), (some (14, true)), .load none (.tmp 2)⟩, []⟩,
  ⟨9, ⟨(some 18), (some (14, true)), .len true (.tmp 17)⟩, []⟩,
  ⟨10, ⟨(some 19), (some (14, true)), .bin .leq .basic (.tmp 16) (.tmp 18)⟩, []⟩,
  ⟨11, ⟨(some 20), none, .pick (.tmp 14) (.tmp 19) (.const (.bool false))⟩, []⟩]
def r41_2 : List RegE := [
  ⟨0, ⟨(some 23), none, .load none (.tmp 2)⟩, []⟩,
  ⟨1, ⟨(some 24), none, .mov (.tmp 6)⟩, []⟩,
  ⟨2, ⟨(some 25), none, .mov (.tmp 6)⟩, []⟩,
  ⟨3, ⟨(some 26), none, .bin .add .basic (.tmp 25) (.const (.int .i64 3))⟩, []⟩,
  ⟨4, ⟨(some 27), none, .slStr (.tmp 23) (some (.tmp 24)) (some (.tmp 26))⟩, []⟩,
  ⟨5, ⟨(some 7), none, .mov (.tmp 27)⟩, []⟩]
def r41_3 : List RegE := [
  ⟨0, ⟨(some 28), none, .load none (.tmp 3)⟩, []⟩,
  ⟨1, ⟨(some 29), none, .mov (.tmp 7)⟩, []⟩,
  ⟨2, ⟨(some 30), none, .load none (.tmp 3)⟩, []⟩,
  ⟨3, ⟨(some 31), none, .mov (.tmp 7)⟩, []⟩,
  ⟨4, ⟨(some 32), none, .lookup true (.nils) false (.tmp 30) (.tmp 31)⟩, []⟩,
  ⟨5, ⟨(some 33), none, .mov (.tmp 6)⟩, []⟩,
  ⟨6, ⟨(some 34), none, .newSlice 1 [.int .i64 0] [(0, 1, .tmp 33)]⟩, []⟩,
  ⟨7, ⟨(some 35), none, .append 1 8 (.tmp 32) (.tmp 34)⟩, [(0, .load none (.tmp 3))]⟩,
  ⟨8, ⟨none, none, .mapUpd true (.tmp 28) (.tmp 29) (.tmp 35)⟩, []⟩]
def r41_4 : List RegE := [
  ⟨0, ⟨(some 21), none, .mov (.tmp 6)⟩, []⟩,
  ⟨1, ⟨(some 22), none, .bin .add .basic (.tmp 21) (.const (.int .i64 1))⟩, []⟩,
  ⟨2, ⟨(some 6), none, .mov (.tmp 22)⟩, []⟩]
def l41_5 : ACode := .seq (.seq (.seq (.seq (.region 12 r41_1) (.forget [0, 1, 2, 3, 6, 20])) (.cond (.tmp 20) .skip (.exit 0))) (.seq (.block 1 (.seq (.seq (.region 6 r41_2) (.forget [0, 1, 2, 3, 6, 7])) (.seq (.region 9 r41_3) (.forget [0, 1, 2, 3, 6])))) (.region 3 r41_4))) (.forget [0, 1, 2, 3, 6])
def k41 : List (Option (List Nat)) := [none, some [], some [0, 1, 2, 3, 6], some [0, 1, 2, 3, 6, 20], none, none, some [0, 1, 2, 3, 6, 7], some [0, 1, 2, 3, 6], none]
def c41 : AFunc := ⟨36, .seq (.region 2 r41_0) (.seq (.block 0 (.seq (.forget [0, 1, 2, 3, 6]) (.loop l41_5))) (.forget [])), []⟩
theorem e41 : compFuncA Try.prog 41 k41 = some c41 := by kernel_rfl
end Go.Vit
