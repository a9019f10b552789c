/-
  append as one operation, of a region that draws its order: what was owned stays owned, and what reads as the new row still does.
-/
import Derived.Test.YtgelfefoiplekaaDoorPush2
import Derived.Test.YtgelfefoiplekaaDoorRegR
namespace Go.Proofs.YtgelfefoiplekaaDoor
open Go.RowKit

theorem append_twice {P : Program} (w : World) (base : Nat) (t ty e : TypeId) (i : TypeInfo) (z : Value) (size bytes : Nat) (ht : P.underlying t = some (.slice e)) (hi : P.info? e = some i) (hz : i.zero = some z)
    (hsize : i.size = size) (hby : i.bytes = bytes) (hsz : 0 < size)
    (v : Value) (n : Nat) (xs : List Value) (hown : w.ownsRow base e size v n xs)
    (a : Addr) (news : List Value) (c : Nat) (hl : news.length = 1 * size) (hnews : ∀ j u, news[j]? = some u → w.cell? (a.add j) = some u) (h1 : ∀ u ∈ news, u.oneCell' = true)
    (h63 : n + 1 ≤ maxLen) (hbytes : (n + 1) * bytes ≤ 140737488355328) {v' : Value} {w' : World} (hr : (Builtin.append_ #[t, t] ty #[v, .slice (some a) 1 c]).run P w = .ok v' w')
    (v2 : Value) (h2 : w.ownsRow base e size v2 (n + 1) (xs ++ news)) : w'.ownsRow base e size v2 (n + 1) (xs ++ news) := by
  subst hsize
  subst hby
  have hsmall : n + 1 ≤ 9223372036854775807 := by simp only [maxLen] at h63; omega
  have hgrow : ∀ o : Obj, (w.drew.alloc o).ownsRow base e i.size v2 (n + 1) (xs ++ news) := by
    intro o
    refine ⟨h2.1, ?_⟩
    rcases h2.2 with h | ⟨g, cap, cur, he, hbg, hg, h5, h6, h7, h8⟩
    · exact .inl h
    · exact .inr ⟨g, cap, cur, he, hbg, (heap_alloc_old w.drew _ (heap_lt hg)).trans hg, h5, h6, h7, h8⟩
  rcases hown.2 with ⟨rfl, rfl⟩ | ⟨g, cap, cur, rfl, hbg, hg, hnc, hcm, hcs, htake⟩
  · have hx : xs = [] := List.eq_nil_of_length_eq_zero (by simpa using hown.1)
    subst hx
    have hr' := run_append_nil (P := P) w t ty e i z ht hi hz a 1 c news hl hnews (by omega) (by omega) (by omega)
    rw [hr'] at hr
    cases hr
    exact hgrow _
  · by_cases hroom : n + 1 ≤ cap
    · have hfit : n * i.size + news.length ≤ cur.size := by rw [hl, hcs, ← Nat.add_mul]; exact Nat.mul_le_mul_right _ hroom
      have hr' := run_append_room (P := P) w t ty e i ht hi g n cap cur hg a 1 c news hl hnews h1 hroom hfit
      rw [hr'] at hr
      cases hr
      refine ⟨h2.1, ?_⟩
      rcases h2.2 with h | ⟨g2, cap2, cur2, he, hbg2, hg2, h5, h6, h7, h8⟩
      · exact .inl h
      · refine .inr ⟨g2, cap2, cur2, he, hbg2, ?_, h5, h6, h7, h8⟩
        by_cases hgg : g2 = g
        · subst hgg
          rw [hg] at hg2
          cases hg2
          rw [setRow_heap w g2 cur _ e _ hg]
          congr 2
          have hxl : xs.length = n * i.size := hown.1
          have hnl : news.length = i.size := by rw [hl, Nat.one_mul]
          have h9 : cur.toList.take (n * i.size) ++ (news ++ cur.toList.drop (n * i.size + news.length)) = cur.toList := by
            rw [← List.append_assoc, htake, ← h8, hnl, show (n + 1) * i.size = n * i.size + i.size from Nat.succ_mul _ _]
            exact List.take_append_drop _ _
          simpa using congrArg List.toArray h9
        · rw [setRow_other w g g2 _ hgg]; exact hg2
    · have holds : ∀ j u, xs[j]? = some u → w.cell? ((⟨g, 0, none⟩ : Addr).add j) = some u := hown.cells (g := g) rfl
      have hr' := run_append_grow (P := P) w t ty e i z ht hi hz ⟨g, 0, none⟩ n cap xs hown.1 holds a 1 c news hl hnews (by omega) (by omega) (growslice_fits (by omega) hbytes)
      rw [hr'] at hr
      cases hr
      exact hgrow _

/-- One element in a block of its own. -/
def Made (e : TypeId) (lo : Nat) (cells : List Value) (w : World) (v : Value) : Prop := ∃ g c, v = .slice (some ⟨g, 0, none⟩) 1 c ∧ lo ≤ g ∧ g < w.heap.size ∧ w.heap[g]? = some (.cells cells.toArray e (0, 0))

namespace RR
variable {P : Program} {ops : Array Oper} {Q : Exit → Act → World → Prop} {R : World → World → Prop} {ks : List (VK R)} {Inv : World → Prop} {a0 : Act} {i : Nat} {o : Oper}

theorem st_mk {t : Nat} {u : Value} (d : Dep ops ks a0 o t u) (e : TypeId) (cs : List Value)
    (hx : ∀ (a : Act) (w : World), (a.tmps[t]?).getD undef = u → (execOp a.eval o).run P w = .ok (.value (.slice (some ⟨w.heap.size, 0, none⟩) 1 1)) (w.alloc (.cells cs.toArray e)))
    (hk : ∀ w w', Inv w → Keep None w w' → w'.heap[w.heap.size]? = some (.cells cs.toArray e (0, 0)) → (kindOf ks i).holds w' (.slice (some ⟨w.heap.size, 0, none⟩) 1 1) ∧ Inv w' ∧ R w w') : KStep P ops Q ks Inv a0 i o := by
  intro a w K hI hV hF hK
  unfold Oper.wp
  rw [hx a w ((eval_tmp _ _).symm.trans (d a w hV hF))]
  obtain ⟨h1, h2, h3⟩ := hk w _ hI ((Keep.refl None w).alloc _) (heap_alloc_new _ _)
  exact hK _ _ h2 h3 h1

theorem st_push {α : Type} {enc : α → List Value} {size : Nat} {ts tx : Nat} (t : TypeId)
    (ho : o.op = .call { callee := .builtin .append, args := #[.tmp ts, .tmp tx], argTypes := #[t, t] })
    (base : Nat) (e : TypeId) (ie : TypeInfo) (z : Value) (bytes : Nat) (ht : P.underlying t = some (.slice e)) (hi : P.info? e = some ie) (hz : ie.zero = some z)
    (hsize : ie.size = size) (hby : ie.bytes = bytes) (hzs : z.cells.size = size) (hsz : 0 < size) (henc : ∀ x, (enc x).length = size)
    (v : Value) (xs : List α) (d : Dep ops ks a0 o ts v) (lo : Nat) (y : α) (d' : DepS ops ks a0 o tx (Made e lo (enc y))) (h1 : ∀ u ∈ enc y, u.oneCell' = true)
    (hlen : xs.length < 1000000) (hb : bytes ≤ 10000)
    (hown : ∀ w, Inv w → Own enc size e base w v xs ∧ base ≤ w.heap.size)
    (hk : ∀ w w' p' c', Inv w → Own enc size e base w' (.slice p' (xs.length + 1) c') (xs ++ [y]) → Own enc size e base w' v xs → Keep (fun k => v.ownBlock = some k) w w' →
      (∀ v2, Own enc size e base w v2 (xs ++ [y]) → Own enc size e base w' v2 (xs ++ [y])) → (kindOf ks i).holds w' (.slice p' (xs.length + 1) c') ∧ Inv w' ∧ R w w') : KStep P ops Q ks Inv a0 i o := by
  intro a w K hI hV hF hK
  obtain ⟨g0, c, hx, -, -, hblk⟩ := d' a w hV hF
  have hs := d a w hV hF
  obtain ⟨hO, hbase⟩ := hown w hI
  have hbytes : (xs.length + 1) * bytes ≤ 140737488355328 := by
    have : (xs.length + 1) * bytes ≤ 1000000 * 10000 := Nat.mul_le_mul (by omega) hb
    omega
  have hnews : ∀ j u, (enc y)[j]? = some u → w.cell? ((⟨g0, 0, none⟩ : Addr).add j) = some u := by
    intro j u hu
    rw [addr_add]
    have := cell_of_row w g0 j (enc y).toArray e (0, 0) hblk
    rw [this]; simpa using hu
  have hl : (enc y).length = 1 * size := by rw [henc, Nat.one_mul]
  obtain ⟨v', w', hr, h2, h3, h4, h5⟩ := run_append_own_at (P := P) w base t o.type e ie z size bytes ht hi hz hsize hby hzs hsz v xs.length (xs.flatMap enc) hO ⟨g0, 0, none⟩ 1 c (enc y) hl hnews h1 (by unfold maxLen; omega) hbytes hbase
  have hold := append_old (P := P) w base t o.type e ie z size bytes ht hi hz hsize hby hsz v xs.length (xs.flatMap enc) hO ⟨g0, 0, none⟩ 1 c (enc y) hl hnews h1 (by unfold maxLen; omega) hbytes hr
  have htw := fun v2 => append_twice (P := P) w base t o.type e ie z size bytes ht hi hz hsize hby hsz v xs.length (xs.flatMap enc) hO ⟨g0, 0, none⟩ (enc y) c hl hnews h1 (by unfold maxLen; omega) hbytes hr v2
  have hO2 : Own enc size e base w' v' (xs ++ [y]) := by unfold Own; simpa using h2
  obtain ⟨p', c', rfl, -⟩ := hO2.slice henc
  rw [show (xs ++ [y]).length = xs.length + 1 from by simp] at hr hO2
  obtain ⟨k1, k2, k3⟩ := hk w w' p' c' hI hO2 hold ((Keep.refl _ _).grown h3 fun k hk => .inl hk) (fun v2 h => by have := htw v2; unfold Own at h ⊢; simp only [List.length_append, List.length_singleton, List.flatMap_append, List.flatMap_cons, List.flatMap_nil, List.append_nil] at h ⊢; exact this h)
  unfold Oper.wp execOp
  simp only [ho, resolve, invoke, builtin, Sem.run_bind, Sem.run_pure, Result.andThen_ok, List.map_toArray, List.map_cons, List.map_nil, hs, hx, hr]
  exact hK _ _ k2 k3 k1

end RR
end Go.Proofs.YtgelfefoiplekaaDoor
