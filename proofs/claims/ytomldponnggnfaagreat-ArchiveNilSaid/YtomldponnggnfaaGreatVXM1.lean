/- Closed runs of messages laid and read. -/
import Derived.Test.YtomldponnggnfaaGreatVX1
import Derived.Test.YtomldponnggnfaaGreatVXR
import Derived.Test.YtomldponnggnfaaGreatVm3
set_option linter.unusedVariables false
set_option linter.unusedSimpArgs false
set_option maxRecDepth 1000000
namespace Go.Vit
open Go.Proofs
abbrev orcW : CallL := orOrc (orcN 151 crcOf) (orOrc (orcB 86 88 5 [150, 267]) (orcC 238 5 [150, 267]))
theorem orcW_ok : CallOkL PG orcW := orOrc_ok (orcN_ok fun s hs σ => bits_Crc s (by unfold reachBytes; omega) σ) orcX
def mA0 : List AV := [.str ⟨#[104, 166, 35, 1, 2, 0, 1, 0, 3, 0, 0, 0, 0, 0, 0, 0, 1, 1, 97, 0, 0, 0, 0, 0, 0, 0, 0, 0, 0, 0, 0, 0, 0, 0, 0]⟩]
def mR0 : AV := .tup [.agg [.int .i64 2, .int .i64 1, .int .i64 3, .int .i64 1, .str ⟨#[97]⟩, .int .i64 0, .int .i64 0, .str ⟨#[]⟩, .nils], .int .i64 0]
theorem m_0 : runsOrc PG [151, 86, 88, 238] orcW 4000 60 104 mA0 mR0 = true := by kernel_rfl
def mA1 : List AV := [.str ⟨#[11, 161, 250, 37, 2, 0, 0, 0, 3, 0, 0, 0, 0, 0, 0, 0, 1, 1, 97, 0, 0, 0, 0, 0, 0, 0, 0, 0, 0, 0, 0, 0, 0, 0, 0]⟩]
def mR1 : AV := .tup [.agg [.int .i64 2, .int .i64 0, .int .i64 3, .int .i64 1, .str ⟨#[97]⟩, .int .i64 0, .int .i64 0, .str ⟨#[]⟩, .nils], .int .i64 0]
theorem m_1 : runsOrc PG [151, 86, 88, 238] orcW 4000 60 104 mA1 mR1 = true := by kernel_rfl
def mA2 : List AV := [.str ⟨#[112, 91, 53, 210, 1, 0, 3, 0, 2, 0, 0, 0, 0, 0, 0, 0, 2, 1, 97, 0, 0, 0, 0, 0, 0, 0, 0, 0, 0, 0, 0, 0, 0, 0, 0]⟩]
def mR2 : AV := .tup [.agg [.int .i64 1, .int .i64 3, .int .i64 2, .int .i64 2, .str ⟨#[97]⟩, .int .i64 0, .int .i64 0, .str ⟨#[]⟩, .nils], .int .i64 0]
theorem m_2 : runsOrc PG [151, 86, 88, 238] orcW 4000 60 104 mA2 mR2 = true := by kernel_rfl
def mA3 : List AV := [.str ⟨#[14, 21, 133, 249, 1, 0, 3, 0, 0, 0, 0, 0, 0, 0, 0, 0, 1, 1, 97, 0, 0, 0, 0, 0, 0, 0, 0, 0, 0, 0, 0, 0, 0, 0, 0]⟩]
def mR3 : AV := .tup [.agg [.int .i64 1, .int .i64 3, .int .i64 0, .int .i64 1, .str ⟨#[97]⟩, .int .i64 0, .int .i64 0, .str ⟨#[]⟩, .nils], .int .i64 0]
theorem m_3 : runsOrc PG [151, 86, 88, 238] orcW 4000 60 104 mA3 mR3 = true := by kernel_rfl
def mA4 : List AV := [.str ⟨#[168, 247, 124, 140, 2, 0, 0, 0, 3, 0, 0, 0, 0, 0, 0, 0, 2, 1, 97, 0, 0, 0, 0, 0, 0, 0, 0, 0, 0, 0, 0, 0, 0, 0, 0]⟩]
def mR4 : AV := .tup [.agg [.int .i64 2, .int .i64 0, .int .i64 3, .int .i64 2, .str ⟨#[97]⟩, .int .i64 0, .int .i64 0, .str ⟨#[]⟩, .nils], .int .i64 0]
theorem m_4 : runsOrc PG [151, 86, 88, 238] orcW 4000 60 104 mA4 mR4 = true := by kernel_rfl
def mA5 : List AV := [.str ⟨#[173, 67, 3, 80, 1, 0, 3, 0, 0, 0, 0, 0, 0, 0, 0, 0, 2, 1, 97, 0, 0, 0, 0, 0, 0, 0, 0, 0, 0, 0, 0, 0, 0, 0, 0]⟩]
def mR5 : AV := .tup [.agg [.int .i64 1, .int .i64 3, .int .i64 0, .int .i64 2, .str ⟨#[97]⟩, .int .i64 0, .int .i64 0, .str ⟨#[]⟩, .nils], .int .i64 0]
theorem m_5 : runsOrc PG [151, 86, 88, 238] orcW 4000 60 104 mA5 mR5 = true := by kernel_rfl
def mA6 : List AV := [.str ⟨#[195, 207, 24, 17, 1, 0, 3, 0, 1, 0, 0, 0, 0, 0, 0, 0, 2, 1, 97, 0, 0, 0, 0, 0, 0, 0, 0, 0, 0, 0, 0, 0, 0, 0, 0]⟩]
def mR6 : AV := .tup [.agg [.int .i64 1, .int .i64 3, .int .i64 1, .int .i64 2, .str ⟨#[97]⟩, .int .i64 0, .int .i64 0, .str ⟨#[]⟩, .nils], .int .i64 0]
theorem m_6 : runsOrc PG [151, 86, 88, 238] orcW 4000 60 104 mA6 mR6 = true := by kernel_rfl
def mA7 : List AV := [.str ⟨#[203, 240, 165, 168, 2, 0, 1, 0, 3, 0, 0, 0, 0, 0, 0, 0, 2, 1, 97, 0, 0, 0, 0, 0, 0, 0, 0, 0, 0, 0, 0, 0, 0, 0, 0]⟩]
def mR7 : AV := .tup [.agg [.int .i64 2, .int .i64 1, .int .i64 3, .int .i64 2, .str ⟨#[97]⟩, .int .i64 0, .int .i64 0, .str ⟨#[]⟩, .nils], .int .i64 0]
theorem m_7 : runsOrc PG [151, 86, 88, 238] orcW 4000 60 104 mA7 mR7 = true := by kernel_rfl
def mA8 : List AV := [.str ⟨#[205, 174, 72, 109, 2, 0, 2, 0, 3, 0, 0, 0, 0, 0, 0, 0, 1, 1, 97, 0, 0, 0, 0, 0, 0, 0, 0, 0, 0, 0, 0, 0, 0, 0, 0]⟩]
def mR8 : AV := .tup [.agg [.int .i64 2, .int .i64 2, .int .i64 3, .int .i64 1, .str ⟨#[97]⟩, .int .i64 0, .int .i64 0, .str ⟨#[]⟩, .nils], .int .i64 0]
theorem m_8 : runsOrc PG [151, 86, 88, 238] orcW 4000 60 104 mA8 mR8 = true := by kernel_rfl
def mA9 : List AV := [.str ⟨#[211, 13, 179, 123, 1, 0, 3, 0, 2, 0, 0, 0, 0, 0, 0, 0, 1, 1, 97, 0, 0, 0, 0, 0, 0, 0, 0, 0, 0, 0, 0, 0, 0, 0, 0]⟩]
def mR9 : AV := .tup [.agg [.int .i64 1, .int .i64 3, .int .i64 2, .int .i64 1, .str ⟨#[97]⟩, .int .i64 0, .int .i64 0, .str ⟨#[]⟩, .nils], .int .i64 0]
theorem m_9 : runsOrc PG [151, 86, 88, 238] orcW 4000 60 104 mA9 mR9 = true := by kernel_rfl
def mA10 : List AV := [.str ⟨#[96, 153, 158, 184, 1, 0, 3, 0, 1, 0, 0, 0, 0, 0, 0, 0, 1, 1, 97, 0, 0, 0, 0, 0, 0, 0, 0, 0, 0, 0, 0, 0, 0, 0, 0]⟩]
def mR10 : AV := .tup [.agg [.int .i64 1, .int .i64 3, .int .i64 1, .int .i64 1, .str ⟨#[97]⟩, .int .i64 0, .int .i64 0, .str ⟨#[]⟩, .nils], .int .i64 0]
theorem m_10 : runsOrc PG [151, 86, 88, 238] orcW 4000 60 104 mA10 mR10 = true := by kernel_rfl
end Go.Vit
