/-
  Runs that the kernel carries out: what stands for slices.Insert of a block into blocks of which it is not known whether there is room.
-/
import Derived.Test.YtcdophocpheadaaGreatDoorEvTop
import Derived.Test.YtcdophocpheadaaGreatDoorInsB
namespace Go.Proofs.YtcdophocpheadaaGreatDoor.Ev
open Go Go.RowKit

def insOv (E : TypeId) : List Value → St → Option (Value × St)
  | [.slice (some ⟨b, o, .none⟩) n c, .int .i64 (.ofNat i), .slice (some ⟨b2, o2, .none⟩) k c2], S =>
    match S.heap.get b, S.heap.get b2 with
    | some (.cells cs e), some (.cells cs2 e2) =>
      match Nat.beq e E && Nat.beq e2 E && Nat.blt i n && Nat.ble n 1000 && Nat.ble (Nat.add big n) c && Nat.beq k 1 && Nat.beq c2 1 && !(Nat.beq b b2) && Nat.ble (o + n * 8) cs.length && Nat.ble (o2 + 8) cs2.length && ((cs.drop o).take (n * 8)).all flatCell && ((cs2.drop o2).take 8).all flatCell with
      | true => S.rd b2 fun S => forceVs (cellsIn ((cs.drop o).take (n * 8)) ((cs2.drop o2).take 8) i) fun xs => S.putK b .none fun S => S.newK (.cells xs E) fun id S => some (.slice (some ⟨id, 0, .none⟩) (n + 1) (big + (n + 1)), S)
      | false => .none
    | _, _ => .none
  | _, _ => .none

theorem one_of_flat {m : BMap} {vs vs' : List Value} (h : VRels m vs vs') (hf : vs.all flatCell = true) : ∀ u ∈ vs', u.oneCell' = true := by
  intro u hu
  obtain ⟨j, hj, hju⟩ := List.mem_iff_getElem.1 hu
  obtain ⟨v, h1, h2⟩ := h.get' (List.getElem?_eq_some_iff.2 ⟨hj, hju⟩)
  have h3 := List.all_eq_true.1 hf v (List.mem_of_getElem? h1)
  cases h2 <;> first | rfl | (simp [flatCell] at h3)

/-- The cells of a real block that some abstract ones stand for. -/
theorem crel_part {m : BMap} {cs : List Value} {d : Nat} {c : Array Value} (h : CRel m cs d c) (o n : Nat) (hl : o + n ≤ cs.length) :
    VRels m ((cs.drop o).take n) ((c.toList.drop (o + d)).take n) ∧ o + d + n ≤ c.size ∨ n = 0 := by
  rcases Nat.eq_zero_or_pos n with h0 | h0
  · exact .inr h0
  left
  have hs : o + d + n ≤ c.size := by
    obtain ⟨v', h1, _⟩ := h (o + n - 1) _ (List.getElem?_eq_getElem (by omega))
    have := (Array.getElem?_eq_some_iff.1 h1).1
    omega
  refine ⟨VRels.of_get (by simp; omega) fun i v v' hv hv' => ?_, hs⟩
  rw [List.getElem?_take] at hv hv'
  split at hv
  · rename_i hi
    rw [if_pos hi] at hv'
    rw [List.getElem?_drop] at hv hv'
    obtain ⟨u, h1, h2⟩ := h _ _ hv
    rw [Array.getElem?_toList, show o + d + i = o + i + d by omega, h1] at hv'
    cases hv'
    exact h2
  · cases hv

theorem cellsIn_rel {m : BMap} {a a' b b' : List Value} (h : VRels m a a') (h' : VRels m b b') (i : Nat) : VRels m (cellsIn a b i) (cellsIn a' b' i) := by
  unfold cellsIn
  have ht : VRels m (a.take (i * 8)) (a'.take (i * 8)) := VRels.of_get (by simp [h.length]) fun j v v' hv hv' => by
    rw [List.getElem?_take] at hv hv'
    split at hv
    · rename_i hj
      rw [if_pos hj] at hv'
      obtain ⟨u, h1, h2⟩ := h.get hv
      rw [h1] at hv'; cases hv'; exact h2
    · cases hv
  have hd : VRels m (a.drop (i * 8)) (a'.drop (i * 8)) := VRels.of_get (by simp [h.length]) fun j v v' hv hv' => by
    rw [List.getElem?_drop] at hv hv'
    obtain ⟨u, h1, h2⟩ := h.get hv
    rw [h1] at hv'; cases hv'; exact h2
  exact (ht.append h').append hd

theorem insOv_ok (args : List Value) (S : St) (v : Value) (S' : St) (he : insOv 60 args S = some (v, S')) (hS : Tidy S) : Grown S S' ∧
    ∀ (m : BMap) (V : Nat → Prop) (w : World) (args' : List Value), Gl m → VRels m args args' → Rel Tryz.prog V m S w → (∀ X, X < S.next → S'.acc.testBit X = true → V X) → (∀ X, S.next ≤ X → X < S'.next → m X = .none) →
      ∃ fn, Tryz.prog.funcs[120]? = some fn ∧ fn.body.isSome = true ∧ Calls Tryz.prog 120 ⟨args'⟩ w (CPost Tryz.prog V m S w v S') := by
  unfold insOv at he
  split at he
  rotate_left
  · cases he
  rename_i b o n c i b2 o2 k c2
  split at he
  rotate_left
  · cases he
  rename_i cs e cs2 e2 hget hget2
  split at he
  rotate_left
  · cases he
  rename_i hck
  simp only [Bool.and_eq_true, Bool.not_eq_true'] at hck
  obtain ⟨⟨⟨⟨⟨⟨⟨⟨⟨⟨⟨k1, k2⟩, k3⟩, k4⟩, k5⟩, k6⟩, k7⟩, k8⟩, k9⟩, k10⟩, k11⟩, k12⟩ := hck
  obtain rfl := Nat.eq_of_beq_eq_true k1
  obtain rfl := Nat.eq_of_beq_eq_true k2
  have hin := blt_true k3
  have hn := Nat.le_of_ble_eq_true k4
  have hcap : big + n ≤ c := Nat.le_of_ble_eq_true k5
  obtain rfl := Nat.eq_of_beq_eq_true k6
  obtain rfl := Nat.eq_of_beq_eq_true k7
  have hbb : b ≠ b2 := fun h => by subst h; rw [Nat.beq_refl] at k8; cases k8
  have hl1 := Nat.le_of_ble_eq_true k9
  have hl2 := Nat.le_of_ble_eq_true k10
  rw [St.rd_eq, forceVs_eq, St.putK_eq] at he
  obtain ⟨hlt, he⟩ := St.newK_some he
  cases he
  have g1 : Grown S ⟨S.heap, S.next, bit S.acc b2, S.wr⟩ := Grown.rd S b2
  have g2 : Grown ⟨S.heap, S.next, bit S.acc b2, S.wr⟩ (St.put ⟨S.heap, S.next, bit S.acc b2, S.wr⟩ b .none) := Grown.put _ _ _ (by show (S.heap.get b).isSome = true; rw [hget]; rfl)
  have g3 := Grown.new (St.put ⟨S.heap, S.next, bit S.acc b2, S.wr⟩ b .none) (.cells (cellsIn ((cs.drop o).take (n * 8)) ((cs2.drop o2).take 8) i) 60) hlt
  refine ⟨g1.trans (g2.trans g3), fun m V w args' _ hargs hr ha hf => ⟨_, Tryz.func120, rfl, ?_⟩⟩
  -- the arguments
  obtain ⟨a1, c1, a2, rfl, hA1, hc1, hc2, hfit, hA2⟩ : ∃ a1 c1 a2, args' = [.slice (some a1) n c1, .int .i64 (i : Int), .slice (some a2) 1 1] ∧ ARel m ⟨b, o, .none⟩ a1 ∧ n ≤ c1 ∧ c ≤ c1 + big ∧ Fits m ⟨b, o, .none⟩ a1 n c1 ∧ ARel m ⟨b2, o2, .none⟩ a2 := by
    cases hargs with
    | cons h1 hargs =>
    cases hargs with
    | cons h2 hargs =>
    cases hargs with
    | cons h3 hargs =>
    cases hargs
    cases h2
    cases h1 with
    | @slice _ a1 _ _ c1 hcr hA hf1 =>
    cases h3 with
    | @slice _ a2 _ _ c2 hcr2 hA2 hf2 =>
    have hb : big ≤ c := by omega
    have hcr := hcr.resolve_left fun h => by omega
    have hcr2 : c2 = 1 := by
      rcases hcr2 with h | h
      · exact h.2
      · exact absurd h.1 (by decide)
    subst hcr2
    have hge : n ≤ c1 := by omega
    exact ⟨a1, c1, a2, rfl, hA.resolve_right fun h => by omega, hge, hcr.2, hf1 hb, hA2.resolve_right fun h => by omega⟩
  obtain ⟨p, hm1, f1, f2, -, f3⟩ := hA1
  obtain ⟨p2, hm2, f4, f5, -, f6⟩ := hA2
  obtain ⟨b1, o1, s1⟩ := a1
  obtain ⟨b3, o3, s3⟩ := a2
  simp only at f1 f2 f3 f4 f5 f6 hm1 hm2
  subst f1 f2 f3 f4 f5 f6
  have hVb : V b := ha b (hr.lt hget) (g3.acc b (by simp [St.put, bit_eq]))
  have hVb2 : V b2 := ha b2 (hr.lt hget2) ((g2.trans g3).acc b2 (by simp [bit_eq]))
  obtain ⟨q, cc, h1, ⟨fr, h2, hnf⟩, h3, h4, h5⟩ := hr.blk b hVb _ hget
  rw [hm1] at h1; cases h1
  obtain ⟨q2, cc2, h6, ⟨fr2, h7, hnf2⟩, h8, h9, h10⟩ := hr.blk b2 hVb2 _ hget2
  rw [hm2] at h6; cases h6
  have hes : p.es = 8 := h4.trans (by kernel_rfl)
  have noU : ∀ {k : Nat} {x : Nat × Nat}, NoFr Tryz.prog 60 k x → x = (0, 0) := by
    intro k x h
    rcases h with ⟨e1, e2⟩ | ⟨_, e2⟩
    · exact Prod.ext e1 e2
    · have e3 : (match Tryz.prog.underlying 60 with | some (.int _) => true | _ => false) = false := by kernel_rfl
      rw [e2] at e3
      cases e3
  obtain rfl := noU hnf
  obtain rfl := noU hnf2
  have hoff : o + p.off + c1 * 8 ≤ cc.size := by
    rcases hfit with h | ⟨p', g4, g5⟩
    · omega
    · rw [hm1] at g4; cases g4
      rw [h3, ← hes]; exact g5
  have hmulN : n * 8 ≤ c1 * 8 := Nat.mul_le_mul_right _ hc1
  obtain ⟨r1, z1⟩ := (crel_part h5 o (n * 8) hl1).resolve_right (by omega)
  obtain ⟨r2, z2⟩ := (crel_part h10 o2 8 hl2).resolve_right (by omega)
  have n1 : ((cc.toList.drop (o + p.off)).take (n * 8)).length = n * 8 := by simp; omega
  have n2 : ((cc2.toList.drop (o2 + p2.off)).take 8).length = 8 := by simp; omega
  have m1 : ∀ (j : Nat) (u : Value), ((cc.toList.drop (o + p.off)).take (n * 8))[j]? = some u → cc[o + p.off + j]? = some u := by
    intro j u hu
    rw [List.getElem?_take] at hu
    split at hu
    · rw [List.getElem?_drop, Array.getElem?_toList] at hu; exact hu
    · cases hu
  have m2 : w.rangeAt p2.blk (o2 + p2.off) ((cc2.toList.drop (o2 + p2.off)).take 8) := by
    intro j u hu
    rw [List.getElem?_take] at hu
    split at hu
    · rw [List.getElem?_drop, Array.getElem?_toList] at hu
      simp only [World.cell?, h7]
      simpa using hu
    · cases hu
  have m3 : w.rangeAt p.blk (o + p.off) ((cc.toList.drop (o + p.off)).take (n * 8)) := by
    intro j u hu
    have := m1 j u hu
    simp only [World.cell?, h2]
    simpa using this
  have hne : p2.blk ≠ p.blk := fun e => hbb (hr.inj b b2 hVb hVb2 (by rw [hget]; rfl) (by rw [hget2]; rfl) p p2 hm1 hm2 e.symm)
  have o1' := hr.rd b2
  have hmn : m S.next = .none := hf S.next (Nat.le_refl _) (by show S.next < S.next + 1; omega)
  have hrel := cellsIn_rel r1 r2 i
  -- what the call does
  have hcall : Calls Tryz.prog 120 #[.slice (some ⟨p.blk, o + p.off, none⟩) n c1, .int .i64 (i : Int), .slice (some ⟨p2.blk, o2 + p2.off, none⟩) 1 1] w
      (InsPost p.blk (o + p.off) n c1 (cellsIn ((cc.toList.drop (o + p.off)).take (n * 8)) ((cc2.toList.drop (o2 + p2.off)).take 8) i) w) := by
    by_cases hcn : c1 = n
    · subst hcn
      exact insB_grow _ _ _ i _ _ 1 _ _ w n1 m3 n2 m2 (one_of_flat r1 k11) (one_of_flat r2 k12) hn hin
    · exact insB_room _ _ _ c1 i _ _ _ _ cc cc2 w n1 h2 m1 n2 h7 m2 (one_of_flat r1 k11) (one_of_flat r2 k12) hn hin hne (by omega) hoff
  refine hcall.mono fun e w' hp => ?_
  rcases hp with ⟨c', cur, rfl, y1, y2, y3, y4, y5⟩ | ⟨cur, cur', rfl, y1, y2, y3, y4, y5, y6, y7⟩
  · have o3 := o1'.rel.of_move (q := ⟨w.heap.size, 0, c' * 8, 8⟩) (w1 := w') (x := .cells (cellsIn ((cs.drop o).take (n * 8)) ((cs2.drop o2).take 8) i) 60) (.inl hVb) hm1 hget hlt hmn (.inr rfl) y5.size (fun k hk hkp => y5.block k hk id) y5.os y5.tape y5.output
      ⟨_, cur, BMap.with_self _ _ _, ⟨(0, 0), y2, .inl ⟨rfl, rfl⟩⟩, y3, by kernel_rfl, fun j v hv => by
        obtain ⟨v', e1, e2⟩ := hrel.get hv
        exact ⟨v', y4 j v' e1, e2.mono (Ext.with hmn _)⟩⟩
    refine ⟨_, _, rfl, ?_, o1'.trans o3⟩
    exact .slice (.inr ⟨by omega, by omega⟩) (.inl ⟨_, BMap.with_self _ _ _, rfl, rfl, rfl, rfl⟩) (fun _ => .inr ⟨_, BMap.with_self _ _ _, by simp⟩)
  · rw [h2] at y2
    cases y2
    have o3 := o1'.rel.of_move (q := ⟨p.blk, o + p.off, p.tot, p.es⟩) (w1 := w') (x := .cells (cellsIn ((cs.drop o).take (n * 8)) ((cs2.drop o2).take 8) i) 60) (.inl hVb) hm1 hget hlt hmn (.inl rfl) (Nat.le_of_eq y7.symm) (fun k hk hkp => y6.block k hk hkp) y6.os y6.tape y6.output
      ⟨_, cur', BMap.with_self _ _ _, ⟨(0, 0), y3, .inl ⟨rfl, rfl⟩⟩, by rw [y4]; exact h3, h4, fun j v hv => by
        obtain ⟨v', e1, e2⟩ := hrel.get hv
        exact ⟨v', by rw [Nat.add_comm]; exact y5 j v' e1, e2.mono (Ext.with hmn _)⟩⟩
    refine ⟨_, _, rfl, ?_, o1'.trans o3⟩
    exact .slice (.inr ⟨by omega, by omega⟩) (.inl ⟨_, BMap.with_self _ _ _, rfl, by simp, rfl, rfl⟩) (fun _ => .inr ⟨_, BMap.with_self _ _ _, by simp only; rw [hes, ← h3]; exact hoff⟩)

end Go.Proofs.YtcdophocpheadaaGreatDoor.Ev
