/- a deed, of a disk and of the model -/
import Derived.Test.YtombehaaaojhdaaMi
import Derived.Test.YtombehaaaojhdaaMr
import Derived.Test.YtombehaaaojhdaaMg
import Derived.Test.YtombehaaaojhdaaMga
import Derived.Test.YtombehaaaojhdaaMgb
import Derived.Test.YtombehaaaojhdaaMgc
import Derived.Test.YtombehaaaojhdaaMgd
import Derived.Test.YtombehaaaojhdaaMge
import Derived.Test.YtombehaaaojhdaaMgf
set_option linter.unusedVariables false
namespace Go.Proofs.Ytombehaaaojhdaa
open Go.Maps Go.RowKit

theorem mchange_said : MChange := fun w L mb nb kb wv xv φ nv xs d h g hf cs hg hh hLg hLh hne hcs hsz hnw => mchange_model w L mb nb kb wv xv φ nv xs d h g hf cs hg hh hLg hLh hne hcs hsz hnw

section
variable (op nmv tov : Nat) (hop : op < 256) (hnm : nmv < 256) (hto : tov < 256) (n : Int) (hn0 : -32768 ≤ n) (hn1 : n ≤ 32767) (va : Option Addr) (vl vc : Nat) (A : Option Addr) (cc : Nat) (bs : List UInt8) (hbs : bs.length ≤ 1099511627776) (d : DV) (k : Nat) (hI : d.Inv names6 k) (hk : k ≤ 1099511627775)
include hop hnm hto hn0 hn1 hbs hI hk

theorem do_any (w : World) (L : Lab) (db nb sb : Nat) (wv : Value) (φ : List Nat) (fv cv : List Value) (h : DiskAt w L db nb sb wv φ fv cv d) (hr : Reads w w.heap.size 1 A bs.length (bcells bs)) (hsep : 0 < bs.length → ∀ ad, A = some ad → L ad.block = none) :
    Calls Try.prog 9 #[.pointer (some ⟨db, 0, none⟩), actVal op nmv tov (.slice va vl vc) n, .slice A bs.length cc] w fun e w' => e = .returned (.int .i64 (d.act (op % 12) (nm (nmv % 6)) (nm (tov % 6)) n bs).2) ∧ DiskTo w L db (d.act (op % 12) (nm (nmv % 6)) (nm (tov % 6)) n bs).1 w' := by
  have hq : op % 12 < 12 := Nat.mod_lt _ (by decide)
  generalize hqq : op % 12 = q at *
  rcases (show q = 0 ∨ q = 1 ∨ q = 2 ∨ q = 3 ∨ q = 4 ∨ q = 5 ∨ q = 6 ∨ q = 7 ∨ q = 8 ∨ q = 9 ∨ q = 10 ∨ q = 11 by omega) with rfl | rfl | rfl | rfl | rfl | rfl | rfl | rfl | rfl | rfl | rfl | rfl
  · exact do_disk0 w L db nb sb wv φ fv cv d h k hI hk op nmv tov hop hnm hto n hn0 hn1 va vl vc A cc bs hr hsep hbs hqq
  · exact do_disk1 w L db nb sb wv φ fv cv d h k hI hk op nmv tov hop hnm hto n hn0 hn1 va vl vc A cc bs hr hsep hbs hqq
  · exact do_disk2 w L db nb sb wv φ fv cv d h k hI hk op nmv tov hop hnm hto n hn0 hn1 va vl vc A cc bs hr hsep hbs hqq
  · exact do_disk3 w L db nb sb wv φ fv cv d h k hI hk op nmv tov hop hnm hto n hn0 hn1 va vl vc A cc bs hr hsep hbs hqq
  · exact do_disk4 w L db nb sb wv φ fv cv d h k hI hk op nmv tov hop hnm hto n hn0 hn1 va vl vc A cc bs hr hsep hbs hqq
  · exact do_disk5 w L db nb sb wv φ fv cv d h k hI hk op nmv tov hop hnm hto n hn0 hn1 va vl vc A cc bs hr hsep hbs hqq
  · exact do_disk6 w L db nb sb wv φ fv cv d h k hI hk op nmv tov hop hnm hto n hn0 hn1 va vl vc A cc bs hr hsep hbs hqq
  · exact do_disk7 w L db nb sb wv φ fv cv d h k hI hk op nmv tov hop hnm hto n hn0 hn1 va vl vc A cc bs hr hsep hbs hqq
  · exact do_disk8 w L db nb sb wv φ fv cv d h k hI hk op nmv tov hop hnm hto n hn0 hn1 va vl vc A cc bs hr hsep hbs hqq
  · exact do_disk9 w L db nb sb wv φ fv cv d h k hI hk op nmv tov hop hnm hto n hn0 hn1 va vl vc A cc bs hr hsep hbs hqq
  · exact do_disk10 w L db nb sb wv φ fv cv d h k hI hk op nmv tov hop hnm hto n hn0 hn1 va vl vc A cc bs hr hsep hbs hqq
  · exact do_disk11 w L db nb sb wv φ fv cv d h k hI hk op nmv tov hop hnm hto n hn0 hn1 va vl vc A cc bs hr hsep hbs hqq

theorem mdo_any (w : World) (L : MLab) (mb nb kb : Nat) (wv xv : Value) (φ : List Nat) (nv xs : List Value) (h : ModelAt w L mb nb kb wv xv φ nv xs d) (hr : Reads w w.heap.size 1 A bs.length (bcells bs)) (hsep : 0 < bs.length → ∀ ad, A = some ad → L ad.block = none) :
    Calls Try.prog 10 #[.pointer (some ⟨mb, 0, none⟩), actVal op nmv tov (.slice va vl vc) n, .slice A bs.length cc] w fun e w' => e = .returned (.int .i64 (d.act (op % 12) (nm (nmv % 6)) (nm (tov % 6)) n bs).2) ∧ ModelTo w L mb (d.act (op % 12) (nm (nmv % 6)) (nm (tov % 6)) n bs).1 w' := by
  have hq : op % 12 < 12 := Nat.mod_lt _ (by decide)
  generalize hqq : op % 12 = q at *
  rcases (show q = 0 ∨ q = 1 ∨ q = 2 ∨ q = 3 ∨ q = 4 ∨ q = 5 ∨ q = 6 ∨ q = 7 ∨ q = 8 ∨ q = 9 ∨ q = 10 ∨ q = 11 by omega) with rfl | rfl | rfl | rfl | rfl | rfl | rfl | rfl | rfl | rfl | rfl | rfl
  · exact mdo_model0 w L mb nb kb wv xv φ nv xs d h k hI hk op nmv tov hop hnm hto n hn0 hn1 va vl vc A cc bs hr hsep hbs mchange_said hqq
  · exact mdo_model1 w L mb nb kb wv xv φ nv xs d h k hI hk op nmv tov hop hnm hto n hn0 hn1 va vl vc A cc bs hr hsep hbs mchange_said hqq
  · exact mdo_model2 w L mb nb kb wv xv φ nv xs d h k hI hk op nmv tov hop hnm hto n hn0 hn1 va vl vc A cc bs hr hsep hbs mchange_said hqq
  · exact mdo_model3 w L mb nb kb wv xv φ nv xs d h k hI hk op nmv tov hop hnm hto n hn0 hn1 va vl vc A cc bs hr hsep hbs mchange_said hqq
  · exact mdo_model4 w L mb nb kb wv xv φ nv xs d h k hI hk op nmv tov hop hnm hto n hn0 hn1 va vl vc A cc bs hr hsep hbs mchange_said hqq
  · exact mdo_model5 w L mb nb kb wv xv φ nv xs d h k hI hk op nmv tov hop hnm hto n hn0 hn1 va vl vc A cc bs hr hsep hbs mchange_said hqq
  · exact mdo_model6 w L mb nb kb wv xv φ nv xs d h k hI hk op nmv tov hop hnm hto n hn0 hn1 va vl vc A cc bs hr hsep hbs mchange_said hqq
  · exact mdo_model7 w L mb nb kb wv xv φ nv xs d h k hI hk op nmv tov hop hnm hto n hn0 hn1 va vl vc A cc bs hr hsep hbs mchange_said hqq
  · exact mdo_model8 w L mb nb kb wv xv φ nv xs d h k hI hk op nmv tov hop hnm hto n hn0 hn1 va vl vc A cc bs hr hsep hbs mchange_said hqq
  · exact mdo_model9 w L mb nb kb wv xv φ nv xs d h k hI hk op nmv tov hop hnm hto n hn0 hn1 va vl vc A cc bs hr hsep hbs mchange_said hqq
  · exact mdo_model10 w L mb nb kb wv xv φ nv xs d h k hI hk op nmv tov hop hnm hto n hn0 hn1 va vl vc A cc bs hr hsep hbs mchange_said hqq
  · exact mdo_model11 w L mb nb kb wv xv φ nv xs d h k hI hk op nmv tov hop hnm hto n hn0 hn1 va vl vc A cc bs hr hsep hbs mchange_said hqq
end
end Go.Proofs.Ytombehaaaojhdaa
