/- Joined: Res4. -/
import Derived.Test.YtbempjkkohjnbaaYRes
/- Resources: one more onto a slice of one's own; a slice that is nil. -/
namespace Go.Proofs.Ytbempjkkohjnbaa
open Go.RowKit Tr
section
variable {B : Nat} {w0 : World} {X : List Rs}
theorem own_nilSl {w : World} (h : Own B w0 X w) (size : Nat) : Own B w0 (SlR size none 0 0 [] :: X) w :=
  h.add (Below.refl _ _) (F := noCells) ⟨Sl.none_ w size, fun _ _ h => h.elim⟩ (fun _ _ h => h.elim)
theorem wpList_app_own {P : Program} {w : World} {ops : Array Oper} {rest : List Oper} {o : Oper} {a : Act} {Q : Exit → Act → World → Prop} (hgd : o.guard = none) (s x : Operand) (t : TypeId)
    (ho : o.op = .call { callee := .builtin .append, args := #[s, x], argTypes := #[t, t] })
    (e : TypeId) (i : TypeInfo) (z : Value) (size bytes : Nat) (ht : P.underlying t = some (.slice e)) (hi : P.info? e = some i) (hz : i.zero = some z)
    (hsize : i.size = size) (hby : i.bytes = bytes) (hzs : z.cells.size = size) (hsz : 0 < size)
    (a1 : Option Addr) (n c : Nat) (xs : List Value) (hs : a.eval s = .slice a1 n c) (hown : Own B w0 (SlR size a1 n c xs :: X) w)
    (a2 : Option Addr) (m c2 : Nat) (news : List Value) (hx : a.eval x = .slice a2 m c2) (hr : Rd w size a2 m c2 news)
    (N : Nat) (ys : List Value) (hN : n + m = N) (hys : xs ++ news = ys) (h63 : N ≤ maxLen) (hbytes : N * bytes ≤ 140737488355328)
    (h : ∀ a' c' w', Own B w0 (SlR size a' N c' ys :: X) w' → wpList P ops Q rest (a.put o.dst (.slice a' N c')) w') : wpList P ops Q (o :: rest) a w := by
  obtain ⟨F, ⟨h1, h2⟩, _, hk⟩ := hown.open1
  exact wpList_app_sl hgd s x t ho e i z size bytes ht hi hz hsize hby hzs hsz F a1 n c xs hs h1 h2 a2 m c2 news hx hr N ys hN hys h63 hbytes fun a' c' w' F' k1 k2 k3 k4 =>
    h a' c' w' (hk w' [SlR size a' N c' ys] ⟨F', SepF.one ⟨k1, k4⟩, k2, k3⟩)
end
end Go.Proofs.Ytbempjkkohjnbaa
