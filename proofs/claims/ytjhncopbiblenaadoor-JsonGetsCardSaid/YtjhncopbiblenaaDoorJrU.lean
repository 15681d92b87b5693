/- Layer 2: the three texts of the examples, read by the plain words. -/
import Derived.Test.YtjhncopbiblenaaDoorJsB
import Derived.KernelRfl
namespace Go.Proofs.YtjhncopbiblenaaDoor
open Go.RowKit Go.PlainAid
set_option linter.unusedVariables false

abbrev tx1 : ByteArray := ⟨#[32, 123, 34, 97, 34, 58, 91, 49, 44, 45, 48, 44, 34, 120, 92, 117, 48, 48, 101, 57, 34, 93, 125]⟩
abbrev tx2 : ByteArray := ⟨#[91, 49, 44, 93]⟩
abbrev tx3 : ByteArray := ⟨#[57, 48, 48, 55, 49, 57, 57, 50, 53, 52, 55, 52, 48, 57, 57, 50]⟩
theorem parse_tx1 : parseTo tx1 = .ok (jObj ([⟨#[97]⟩], [jList [jInt 1, jInt 0, jText ⟨#[120, 195, 169]⟩]])) 23 := by kernel_rfl
theorem parse_tx2 : parseTo tx2 = .bad 3 3 := by kernel_rfl
theorem parse_tx3 : parseTo tx3 = .bad 5 0 := by kernel_rfl
end Go.Proofs.YtjhncopbiblenaaDoor
