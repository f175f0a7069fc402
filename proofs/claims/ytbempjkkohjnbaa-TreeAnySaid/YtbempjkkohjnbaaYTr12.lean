/- Joined: Tr12. -/
import Derived.Test.YtbempjkkohjnbaaYTr
/- A tree that is like another one: the same pairs, the same shape. Plain: no program in sight. -/
namespace Go.Proofs.Ytbempjkkohjnbaa
namespace Tr
def LikeL (R : G → G → Prop) : List G → List G → Prop
  | [], [] => True
  | a :: A, b :: B => R a b ∧ LikeL R A B
  | _, _ => False
def Like : Nat → G → G → Prop
  | 0, g, g' => g'.ps = g.ps ∧ g.ks = [] ∧ g'.ks = []
  | h + 1, g, g' => g'.ps = g.ps ∧ LikeL (Like h) g.ks g'.ks
theorem LikeL.snoc {R : G → G → Prop} {a b : G} (hab : R a b) : ∀ {A B : List G}, LikeL R A B → LikeL R (A ++ [a]) (B ++ [b])
  | [], [], _ => ⟨hab, trivial⟩
  | _ :: _, _ :: _, h => ⟨h.1, LikeL.snoc hab h.2⟩
  | [], _ :: _, h => h.elim
  | _ :: _, [], h => h.elim
theorem LikeL.append {R : G → G → Prop} {C D : List G} (hcd : LikeL R C D) : ∀ {A B : List G}, LikeL R A B → LikeL R (A ++ C) (B ++ D)
  | [], [], _ => hcd
  | _ :: _, _ :: _, h => ⟨h.1, LikeL.append hcd h.2⟩
  | [], _ :: _, h => h.elim
  | _ :: _, [], h => h.elim
theorem LikeL.len {R : G → G → Prop} : ∀ {A B : List G}, LikeL R A B → B.length = A.length
  | [], [], _ => rfl
  | _ :: _, _ :: _, h => by rw [List.length_cons, List.length_cons, LikeL.len h.2]
  | [], _ :: _, h => h.elim
  | _ :: _, [], h => h.elim
theorem LikeL.map {α : Type} {R : G → G → Prop} {f : G → α} (hf : ∀ a b, R a b → f b = f a) : ∀ {A B : List G}, LikeL R A B → B.map f = A.map f
  | [], [], _ => rfl
  | a :: _, b :: _, h => by rw [List.map_cons, List.map_cons, hf a b h.1, LikeL.map hf h.2]
  | [], _ :: _, h => h.elim
  | _ :: _, [], h => h.elim
theorem LikeL.all {R : G → G → Prop} {p q : G → Prop} (hf : ∀ a b, R a b → p a → q b) : ∀ {A B : List G}, LikeL R A B → (∀ a ∈ A, p a) → ∀ b ∈ B, q b
  | [], [], _, _ => fun _ h => by cases h
  | a :: _, b :: _, h, hp => fun x hx => by
    rcases List.mem_cons.1 hx with rfl | hx
    · exact hf a x h.1 (hp a (by simp))
    · exact LikeL.all hf h.2 (fun a ha => hp a (List.mem_cons_of_mem _ ha)) x hx
  | [], _ :: _, h, _ => h.elim
  | _ :: _, [], h, _ => h.elim
theorem Like.ps {h : Nat} {g g' : G} (hl : Like h g g') : g'.ps = g.ps := by cases h <;> exact hl.1
theorem Like.flat : ∀ {h : Nat} {g g' : G}, Like h g g' → Tr.flat h g' = Tr.flat h g
  | 0, _, _, hl => hl.1
  | h + 1, g, g', hl => by
    show weave (g'.ks.map (Tr.flat h)) g'.ps = weave (g.ks.map (Tr.flat h)) g.ps
    rw [hl.1, hl.2.map (fun a b hab => Like.flat hab)]
theorem Like.kids {o : Nat} : ∀ {h : Nat} {g g' : G}, Like h g g' → Tr.Kids o h g → Tr.Kids o h g'
  | 0, _, _, hl, _ => hl.2.2
  | h + 1, g, g', hl, hk => by
    refine ⟨by rw [hl.2.len, hl.1, hk.1], hl.2.all (fun a b hab ha => ?_) hk.2⟩
    exact ⟨Like.kids hab ha.1, by rw [hab.ps]; exact ha.2.1, by rw [hab.ps]; exact ha.2.2⟩
theorem LikeL.next {h : Nat} : ∀ {A B : List G}, LikeL (Like (h + 1)) A B → LikeL (Like h) (A.flatMap G.ks) (B.flatMap G.ks)
  | [], [], _ => trivial
  | _ :: _, _ :: _, hl => by
    rw [List.flatMap_cons, List.flatMap_cons]
    exact LikeL.append (LikeL.next hl.2) hl.1.2
  | [], _ :: _, h => h.elim
  | _ :: _, [], h => h.elim
theorem LikeL.lv : ∀ {h : Nat} {A B : List G}, LikeL (Like h) A B → Tr.lv h B = Tr.lv h A
  | 0, A, B, hl => by
    show [B.map fun g => g.ps.length] = [A.map fun g => g.ps.length]
    rw [hl.map (fun a b hab => by rw [hab.ps])]
  | h + 1, A, B, hl => by
    show (B.map fun g => g.ps.length) :: Tr.lv h (B.flatMap G.ks) = (A.map fun g => g.ps.length) :: Tr.lv h (A.flatMap G.ks)
    rw [hl.map (fun a b hab => by rw [hab.ps]), hl.next.lv]
end Tr
end Go.Proofs.Ytbempjkkohjnbaa
