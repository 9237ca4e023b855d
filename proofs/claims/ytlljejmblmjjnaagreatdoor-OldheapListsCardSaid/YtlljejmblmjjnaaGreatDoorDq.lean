/- spans: Give, whole. -/
import Derived.Test.YtlljejmblmjjnaaGreatDoorDn
import Derived.Test.YtlljejmblmjjnaaGreatDoorDp
namespace Go.Proofs.YtlljejmblmjjnaaGreatDoor
set_option linter.unusedVariables false
set_option linter.unusedSimpArgs false
open Go.RowKit Go.ChangeMaps

theorem give_yes (sp pages k : Nat) (v : Value) (l : List Run) (r : Run) (w : World) (h : SpansAt w sp v pages l) (hk : l[k]? = some r) (ht : r.taken = true) :
    Calls Tryz.prog 87 #[.pointer (some ⟨sp, 0, none⟩), .int .i64 r.page] w (SpTook w sp pages v (giveR l k r) (r.n : Nat) 0) := by
  cases hn : l[k + 1]? with
  | none => exact give_none sp pages k v l r w h hk ht hn
  | some p =>
    cases hp : p.taken with
    | true => exact give_taken sp pages k v l r w h hk ht p hn hp
    | false => exact give_free sp pages k v l r w h hk ht p hn hp

end Go.Proofs.YtlljejmblmjjnaaGreatDoor
