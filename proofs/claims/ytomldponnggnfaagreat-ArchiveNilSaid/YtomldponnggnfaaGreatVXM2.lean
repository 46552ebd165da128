/- Closed runs of messages laid and read. -/
import Derived.Test.YtomldponnggnfaaGreatVX1
import Derived.Test.YtomldponnggnfaaGreatVXR
import Derived.Test.YtomldponnggnfaaGreatVm3
import Derived.Test.YtomldponnggnfaaGreatVXM1
set_option linter.unusedVariables false
set_option linter.unusedSimpArgs false
set_option maxRecDepth 1000000
namespace Go.Vit
open Go.Proofs
def mA11 : List AV := [.agg [.int .i64 1, .int .i64 3, .int .i64 0, .int .i64 1, .str ⟨#[97]⟩, .int .i64 0, .int .i64 0, .str ⟨#[]⟩, .nils]]
def mR11 : AV := .tup [.str ⟨#[14, 21, 133, 249, 1, 0, 3, 0, 0, 0, 0, 0, 0, 0, 0, 0, 1, 1, 97, 0, 0, 0, 0, 0, 0, 0, 0, 0, 0, 0, 0, 0, 0, 0, 0]⟩, .int .i64 0]
theorem m_11 : runsOrc PG [151, 86, 88, 238] orcW 4000 60 148 mA11 mR11 = true := by kernel_rfl
def mA12 : List AV := [.agg [.int .i64 1, .int .i64 3, .int .i64 0, .int .i64 2, .str ⟨#[97]⟩, .int .i64 0, .int .i64 0, .str ⟨#[]⟩, .nils]]
def mR12 : AV := .tup [.str ⟨#[173, 67, 3, 80, 1, 0, 3, 0, 0, 0, 0, 0, 0, 0, 0, 0, 2, 1, 97, 0, 0, 0, 0, 0, 0, 0, 0, 0, 0, 0, 0, 0, 0, 0, 0]⟩, .int .i64 0]
theorem m_12 : runsOrc PG [151, 86, 88, 238] orcW 4000 60 148 mA12 mR12 = true := by kernel_rfl
def mA13 : List AV := [.agg [.int .i64 1, .int .i64 3, .int .i64 1, .int .i64 1, .str ⟨#[97]⟩, .int .i64 0, .int .i64 0, .str ⟨#[]⟩, .nils]]
def mR13 : AV := .tup [.str ⟨#[96, 153, 158, 184, 1, 0, 3, 0, 1, 0, 0, 0, 0, 0, 0, 0, 1, 1, 97, 0, 0, 0, 0, 0, 0, 0, 0, 0, 0, 0, 0, 0, 0, 0, 0]⟩, .int .i64 0]
theorem m_13 : runsOrc PG [151, 86, 88, 238] orcW 4000 60 148 mA13 mR13 = true := by kernel_rfl
def mA14 : List AV := [.agg [.int .i64 1, .int .i64 3, .int .i64 1, .int .i64 2, .str ⟨#[97]⟩, .int .i64 0, .int .i64 0, .str ⟨#[]⟩, .nils]]
def mR14 : AV := .tup [.str ⟨#[195, 207, 24, 17, 1, 0, 3, 0, 1, 0, 0, 0, 0, 0, 0, 0, 2, 1, 97, 0, 0, 0, 0, 0, 0, 0, 0, 0, 0, 0, 0, 0, 0, 0, 0]⟩, .int .i64 0]
theorem m_14 : runsOrc PG [151, 86, 88, 238] orcW 4000 60 148 mA14 mR14 = true := by kernel_rfl
def mA15 : List AV := [.agg [.int .i64 1, .int .i64 3, .int .i64 2, .int .i64 1, .str ⟨#[97]⟩, .int .i64 0, .int .i64 0, .str ⟨#[]⟩, .nils]]
def mR15 : AV := .tup [.str ⟨#[211, 13, 179, 123, 1, 0, 3, 0, 2, 0, 0, 0, 0, 0, 0, 0, 1, 1, 97, 0, 0, 0, 0, 0, 0, 0, 0, 0, 0, 0, 0, 0, 0, 0, 0]⟩, .int .i64 0]
theorem m_15 : runsOrc PG [151, 86, 88, 238] orcW 4000 60 148 mA15 mR15 = true := by kernel_rfl
def mA16 : List AV := [.agg [.int .i64 1, .int .i64 3, .int .i64 2, .int .i64 2, .str ⟨#[97]⟩, .int .i64 0, .int .i64 0, .str ⟨#[]⟩, .nils]]
def mR16 : AV := .tup [.str ⟨#[112, 91, 53, 210, 1, 0, 3, 0, 2, 0, 0, 0, 0, 0, 0, 0, 2, 1, 97, 0, 0, 0, 0, 0, 0, 0, 0, 0, 0, 0, 0, 0, 0, 0, 0]⟩, .int .i64 0]
theorem m_16 : runsOrc PG [151, 86, 88, 238] orcW 4000 60 148 mA16 mR16 = true := by kernel_rfl
def mA17 : List AV := [.agg [.int .i64 2, .int .i64 0, .int .i64 3, .int .i64 1, .str ⟨#[97]⟩, .int .i64 0, .int .i64 0, .str ⟨#[]⟩, .nils]]
def mR17 : AV := .tup [.str ⟨#[11, 161, 250, 37, 2, 0, 0, 0, 3, 0, 0, 0, 0, 0, 0, 0, 1, 1, 97, 0, 0, 0, 0, 0, 0, 0, 0, 0, 0, 0, 0, 0, 0, 0, 0]⟩, .int .i64 0]
theorem m_17 : runsOrc PG [151, 86, 88, 238] orcW 4000 60 148 mA17 mR17 = true := by kernel_rfl
def mA18 : List AV := [.agg [.int .i64 2, .int .i64 0, .int .i64 3, .int .i64 2, .str ⟨#[97]⟩, .int .i64 0, .int .i64 0, .str ⟨#[]⟩, .nils]]
def mR18 : AV := .tup [.str ⟨#[168, 247, 124, 140, 2, 0, 0, 0, 3, 0, 0, 0, 0, 0, 0, 0, 2, 1, 97, 0, 0, 0, 0, 0, 0, 0, 0, 0, 0, 0, 0, 0, 0, 0, 0]⟩, .int .i64 0]
theorem m_18 : runsOrc PG [151, 86, 88, 238] orcW 4000 60 148 mA18 mR18 = true := by kernel_rfl
def mA19 : List AV := [.agg [.int .i64 2, .int .i64 1, .int .i64 3, .int .i64 1, .str ⟨#[97]⟩, .int .i64 0, .int .i64 0, .str ⟨#[]⟩, .nils]]
def mR19 : AV := .tup [.str ⟨#[104, 166, 35, 1, 2, 0, 1, 0, 3, 0, 0, 0, 0, 0, 0, 0, 1, 1, 97, 0, 0, 0, 0, 0, 0, 0, 0, 0, 0, 0, 0, 0, 0, 0, 0]⟩, .int .i64 0]
theorem m_19 : runsOrc PG [151, 86, 88, 238] orcW 4000 60 148 mA19 mR19 = true := by kernel_rfl
def mA20 : List AV := [.agg [.int .i64 2, .int .i64 1, .int .i64 3, .int .i64 2, .str ⟨#[97]⟩, .int .i64 0, .int .i64 0, .str ⟨#[]⟩, .nils]]
def mR20 : AV := .tup [.str ⟨#[203, 240, 165, 168, 2, 0, 1, 0, 3, 0, 0, 0, 0, 0, 0, 0, 2, 1, 97, 0, 0, 0, 0, 0, 0, 0, 0, 0, 0, 0, 0, 0, 0, 0, 0]⟩, .int .i64 0]
theorem m_20 : runsOrc PG [151, 86, 88, 238] orcW 4000 60 148 mA20 mR20 = true := by kernel_rfl
def mA21 : List AV := [.agg [.int .i64 2, .int .i64 2, .int .i64 3, .int .i64 1, .str ⟨#[97]⟩, .int .i64 0, .int .i64 0, .str ⟨#[]⟩, .nils]]
def mR21 : AV := .tup [.str ⟨#[205, 174, 72, 109, 2, 0, 2, 0, 3, 0, 0, 0, 0, 0, 0, 0, 1, 1, 97, 0, 0, 0, 0, 0, 0, 0, 0, 0, 0, 0, 0, 0, 0, 0, 0]⟩, .int .i64 0]
theorem m_21 : runsOrc PG [151, 86, 88, 238] orcW 4000 60 148 mA21 mR21 = true := by kernel_rfl
end Go.Vit
