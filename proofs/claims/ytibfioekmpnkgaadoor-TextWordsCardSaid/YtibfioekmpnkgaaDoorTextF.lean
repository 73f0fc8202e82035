/-
  text.deed: the fields of a deed, as data.
-/
import Derived.Test.YtibfioekmpnkgaaDoorLib
namespace Go.Proofs.YtibfioekmpnkgaaDoor
open Go.RowKit

/-- A deed's fields: name, dynamic type, place in the deed. -/
def flds : List (List UInt8 × Nat × Nat) := [
  ([114, 117, 110], 50, 1), ([110], 50, 2), ([110, 111, 116, 101], 57, 3), ([112, 105, 99, 107, 115], 81, 4),
  ([100, 97, 116, 97], 84, 5), ([115, 105, 122, 101, 115], 81, 6), ([102, 97, 105, 108], 50, 7), ([99, 111, 100, 101], 50, 8),
  ([109, 111, 115, 116], 50, 9), ([112, 97, 116, 116, 101, 114, 110], 57, 10), ([101, 118, 101, 114, 121], 50, 11), ([98, 97, 100], 50, 12),
  ([116, 101, 108, 108], 50, 13), ([98, 101, 102, 111, 114, 101], 50, 14), ([97, 102, 116, 101, 114], 50, 15), ([114, 101, 102, 117, 115, 101], 50, 16),
  ([98, 117, 102, 102, 101, 114, 115], 50, 17), ([99, 104, 117, 110, 107], 50, 18), ([114, 111, 111, 109], 50, 19), ([119, 111, 114, 107, 101, 114, 115], 50, 20), ([114, 105, 110, 103], 50, 21)]
def fieldCells (b : Nat) : Array Value := (flds.flatMap fun f => [.string ⟨f.1.toArray⟩, .iface f.2.1 (.agg #[.pointer (some ⟨b, f.2.2, none⟩)])]).toArray

theorem fieldCells_eq (b : Nat) : fieldCells b = #[.string ⟨#[114, 117, 110]⟩, .iface 50 (.agg #[.pointer (some ⟨b, 1, none⟩)]), .string ⟨#[110]⟩, .iface 50 (.agg #[.pointer (some ⟨b, 2, none⟩)]), .string ⟨#[110, 111, 116, 101]⟩, .iface 57 (.agg #[.pointer (some ⟨b, 3, none⟩)]), .string ⟨#[112, 105, 99, 107, 115]⟩, .iface 81 (.agg #[.pointer (some ⟨b, 4, none⟩)]), .string ⟨#[100, 97, 116, 97]⟩, .iface 84 (.agg #[.pointer (some ⟨b, 5, none⟩)]), .string ⟨#[115, 105, 122, 101, 115]⟩, .iface 81 (.agg #[.pointer (some ⟨b, 6, none⟩)]), .string ⟨#[102, 97, 105, 108]⟩, .iface 50 (.agg #[.pointer (some ⟨b, 7, none⟩)]), .string ⟨#[99, 111, 100, 101]⟩, .iface 50 (.agg #[.pointer (some ⟨b, 8, none⟩)]), .string ⟨#[109, 111, 115, 116]⟩, .iface 50 (.agg #[.pointer (some ⟨b, 9, none⟩)]), .string ⟨#[112, 97, 116, 116, 101, 114, 110]⟩, .iface 57 (.agg #[.pointer (some ⟨b, 10, none⟩)]), .string ⟨#[101, 118, 101, 114, 121]⟩, .iface 50 (.agg #[.pointer (some ⟨b, 11, none⟩)]), .string ⟨#[98, 97, 100]⟩, .iface 50 (.agg #[.pointer (some ⟨b, 12, none⟩)]), .string ⟨#[116, 101, 108, 108]⟩, .iface 50 (.agg #[.pointer (some ⟨b, 13, none⟩)]), .string ⟨#[98, 101, 102, 111, 114, 101]⟩, .iface 50 (.agg #[.pointer (some ⟨b, 14, none⟩)]), .string ⟨#[97, 102, 116, 101, 114]⟩, .iface 50 (.agg #[.pointer (some ⟨b, 15, none⟩)]), .string ⟨#[114, 101, 102, 117, 115, 101]⟩, .iface 50 (.agg #[.pointer (some ⟨b, 16, none⟩)]), .string ⟨#[98, 117, 102, 102, 101, 114, 115]⟩, .iface 50 (.agg #[.pointer (some ⟨b, 17, none⟩)]), .string ⟨#[99, 104, 117, 110, 107]⟩, .iface 50 (.agg #[.pointer (some ⟨b, 18, none⟩)]), .string ⟨#[114, 111, 111, 109]⟩, .iface 50 (.agg #[.pointer (some ⟨b, 19, none⟩)]), .string ⟨#[119, 111, 114, 107, 101, 114, 115]⟩, .iface 50 (.agg #[.pointer (some ⟨b, 20, none⟩)]), .string ⟨#[114, 105, 110, 103]⟩, .iface 50 (.agg #[.pointer (some ⟨b, 21, none⟩)])] := by
  simp [fieldCells, flds]
end Go.Proofs.YtibfioekmpnkgaaDoor
