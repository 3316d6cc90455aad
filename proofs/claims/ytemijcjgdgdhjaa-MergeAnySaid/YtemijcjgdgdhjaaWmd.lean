/- Merging: the law's awake, plainly. -/
import Derived.Test.YtemijcjgdgdhjaaWmc
namespace Go.Proofs.Ytemijcjgdgdhjaa
open Go.RowKit
set_option linter.unusedSimpArgs false
set_option maxRecDepth 10000

def aw1 : List Msg := [⟨3, ⟨#[98]⟩, val8 5⟩, ⟨2, ⟨#[99]⟩, ⟨#[]⟩⟩]
def aw2 : List Msg := [⟨1, ⟨#[97]⟩, ⟨#[120]⟩⟩, ⟨3, ⟨#[98]⟩, val8 7⟩]
def awU : List Run := heapInit lessU (runsU [aw1, aw2])
theorem aw_err : errU [aw1, aw2] = 0 := by decide +kernel
theorem aw_cnt : countU awU = 4 := by decide +kernel
theorem aw_n1 : (nextU awU).1 = ⟨1, ⟨#[97]⟩, ⟨#[120]⟩⟩ := by decide +kernel
theorem aw_n2 : (nextU (nextU awU).2).1 = ⟨3, ⟨#[98]⟩, val8 12⟩ := by decide +kernel
theorem aw_c2 : countU (nextU (nextU awU).2).2 = 1 := by decide +kernel
theorem aw_oe : overE [⟨⟨#[98]⟩, ⟨#[118]⟩⟩, ⟨⟨#[99]⟩, ⟨#[119]⟩⟩] [aw1, aw2] = 0 := by decide +kernel
theorem aw_ol : (overL [⟨⟨#[98]⟩, ⟨#[118]⟩⟩, ⟨⟨#[99]⟩, ⟨#[119]⟩⟩] [aw1, aw2]).map (fun x => (x.key, x.val)) = [(⟨#[97]⟩, ⟨#[120]⟩), (⟨#[98]⟩, ⟨#[118]⟩)] := by decide +kernel
theorem aw_e2 : errU [[⟨2, ⟨#[98]⟩, ⟨#[]⟩⟩, ⟨2, ⟨#[98]⟩, ⟨#[]⟩⟩]] = 11 := by decide +kernel
end Go.Proofs.Ytemijcjgdgdhjaa
