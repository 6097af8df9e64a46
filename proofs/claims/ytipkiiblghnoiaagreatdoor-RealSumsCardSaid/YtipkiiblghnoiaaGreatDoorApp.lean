/- Append of a slice, nil or not, to a row of the call's own. By an AI agent. -/
import Derived.Test.YtipkiiblghnoiaaGreatDoorKit
import Derived.Laws.OwnMore
namespace Go.Proofs.YtipkiiblghnoiaaGreatDoor
open Go.ChangeShapes Go.WideShapes Go.ChangeAt Go.RowKit
set_option linter.unusedVariables false

theorem wpList_append_sl {P : Program} (w : World) {ops : Array Oper} {rest : List Oper} {o : Oper} {a : Act} {Q : Exit → Act → World → Prop} (hgd : o.guard = none) (s x : Operand) (t : TypeId)
    (ho : o.op = .call { callee := .builtin .append, args := #[s, x], argTypes := #[t, t] })
    (base : Nat) (e : TypeId) (i : TypeInfo) (z : Value) (bytes : Nat) (ht : P.underlying t = some (.slice e)) (hi : P.info? e = some i) (hz : i.zero = some z)
    (hsize : i.size = 1) (hby : i.bytes = bytes) (hzs : z.cells.size = 1)
    (v : Value) (n : Nat) (xs : List Value) (hs : a.eval s = v) (hown : w.ownsRow base e 1 v n xs)
    (oa : Option Addr) (m c : Nat) (news : List Value) (hx : a.eval x = .slice oa m c) (hl : news.length = m) (hnews : ∀ j u, news[j]? = some u → ∃ ad, oa = some ad ∧ w.cell? (ad.add j) = some u) (h1 : ∀ u ∈ news, u.oneCell' = true)
    (hc : oa = none → c = 0) (h63 : n + m ≤ maxLen) (hbytes : (n + m) * bytes ≤ 140737488355328) (hbase : base ≤ w.heap.size)
    (h : ∀ v' w', w'.ownsRow base e 1 v' (n + m) (xs ++ news) → w.grownBy w' v.ownBlock → (v'.ownBlock = v.ownBlock ∨ v'.ownBlock = some w.heap.size) → wpList P ops Q rest (a.put o.dst v') w') :
    wpList P ops Q (o :: rest) a w := by
  cases oa with
  | some ad =>
    refine wpList_append_own_at (P := P) w hgd s x t ho base e i z 1 bytes ht hi hz hsize hby hzs (by omega) v n xs hs hown ad m c news hx (by omega) ?_ h1 h63 hbytes hbase fun v' w' h2 h3 _ h5 => h v' w' h2 h3 h5
    intro j u hj
    obtain ⟨ad', e1, e2⟩ := hnews j u hj
    cases e1
    exact e2
  | none =>
    have hn0 : news = [] := by
      cases news with
      | nil => rfl
      | cons y r => obtain ⟨_, e1, _⟩ := hnews 0 y rfl; cases e1
    subst hn0
    have hm0 : m = 0 := by rw [← hl]; rfl
    subst hm0
    rw [hc rfl] at hx
    refine wpList_plain hgd fun K hK => ?_
    have hr := run_append_owned_none (P := P) (w := w) base t o.type e i 1 ht hi v n xs hown
    unfold Oper.wp execOp
    simp only [ho, resolve, invoke, builtin, Sem.run_bind, Sem.run_pure, Result.andThen_ok, List.map_toArray, List.map_cons, List.map_nil, hs, hx, hr]
    refine hK _ _ (h v w ?_ ?_ (Or.inl rfl))
    · rw [List.append_nil]; exact hown
    · exact ⟨rfl, rfl, rfl, Nat.le_refl _, fun _ _ _ => rfl⟩
end Go.Proofs.YtipkiiblghnoiaaGreatDoor
