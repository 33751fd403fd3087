/- Contract of node.Right. Nodes as bytes: plain; contract of node.Encode. -/
import Derived.Test.YtgcbodpjidoanaaQ20
import Derived.Test.YtgcbodpjidoanaaQ23
import Derived.Test.YtgcbodpjidoanaaQ27
set_option linter.unusedVariables false
set_option linter.unusedSimpArgs false
namespace Go.Proofs.Ytgcbodpjidoanaa
open Go.RowKit
theorem nrow3 {w : World} {g : Nat} {t : TypeId} {a b c : Value} (h : Row w g t [a, b, c]) : w.cell? ⟨g, 0, none⟩ = some a ∧ w.cell? ⟨g, 1, none⟩ = some b ∧ w.cell? ⟨g, 2, none⟩ = some c := ⟨Row.cell h 0, Row.cell h 1, Row.cell h 2⟩
set_option maxRecDepth 100000 in
set_option maxHeartbeats 4000000 in
theorem nright_any (n : NodeD) (p : NodeP) (d : Int) (w : World) (hn : NodeOk n) (hm : NodeMem w w.heap.size n p) :
    Calls Try.prog 91 #[.agg (nodeC n p).toArray, .int .i64 d] w fun e w' => e = .returned (.bool (nodeR n d)) ∧ Below w.heap.size w w' := by
  obtain ⟨gd, hgd⟩ : ∃ g, g = w.heap.size + 1 := ⟨_, rfl⟩
  have hE := fun (W : World) (hW : Below w.heap.size w W) (f : EntD → Bool) (fn : Nat) (caps : Array Value) henter (hs : ∀ i W', i < n.rows.length → Below W.heap.size W W' → Calls Try.prog fn (#[.agg (entC (n.rows.getD i default) (p.rp i)).toArray] ++ caps) W' fun e w' => e = .returned (.bool (f (n.rows.getD i default))) ∧ Below W'.heap.size W' w') =>
    show Calls Try.prog 165 #[.slice p.rA n.rows.length p.rc, .func (.func fn) #[] caps] W fun e w' => e = .returned (.bool (n.rows.all f)) ∧ Below W.heap.size W w' by
      have := evente_any p.rA n.rows.length p.rc (fun i => entC (n.rows.getD i default) (p.rp i)) (fun i => f (n.rows.getD i default)) _ fn caps rfl W (hm.after hW).rows (fun i _ => rfl) (Nat.le_trans hn.rows (by decide)) henter (fun i W' hi hW' => hs i W' hi hW')
      rwa [anyTo_allg] at this
  have hK := fun (W : World) (hW : Below w.heap.size w W) (f : KidD → Bool) (fn : Nat) (caps : Array Value) henter (hs : ∀ i W', i < n.kids.length → Below W.heap.size W W' → Calls Try.prog fn (#[.agg (kidC (n.kids.getD i default) (p.kp i)).toArray] ++ caps) W' fun e w' => e = .returned (.bool (f (n.kids.getD i default))) ∧ Below W'.heap.size W' w') =>
    show Calls Try.prog 167 #[.slice p.kA n.kids.length p.kc, .func (.func fn) #[] caps] W fun e w' => e = .returned (.bool (n.kids.all f)) ∧ Below W.heap.size W w' by
      have := evkid_any p.kA n.kids.length p.kc (fun i => kidC (n.kids.getD i default) (p.kp i)) (fun i => f (n.kids.getD i default)) _ fn caps rfl W (hm.after hW).kids (fun i hi => (hn.kid i hi).cells _) (Nat.le_trans hn.kids (by decide)) henter (fun i W' hi hW' => hs i W' hi hW')
      rwa [anyTo_allg] at this
  have h1 := hideP (fun W (hW : Below w.heap.size w W) (hd : W.cell? ⟨gd, 0, none⟩ = some (.int .i64 d)) => hE W hW (fun e => decide ((e.row.length : Int) = d)) 166 #[.pointer (some ⟨gd, 0, none⟩)] (enter_fn Try.func166 rfl rfl) (fun i W' hi hW' => nr1_any (n.rows.getD i default) (p.rp i) d gd W' ((Ext.of_below hW').cell hd)))
  have h2 := hideP (fun W (hW : Below w.heap.size w W) (hd : W.cell? ⟨gd, 0, none⟩ = some (.int .i64 d)) => hK W hW (fun k => kidR k d) 168 #[.pointer (some ⟨gd, 0, none⟩)] (enter_fn Try.func168 rfl rfl) (fun i W' hi hW' => nr2_any (n.kids.getD i default) (p.kp i) d gd W' (hn.kid i hi) ((hm.after (bstep hW hW')).kid i hi) ((Ext.of_below hW').cell hd)))
  have h3 := hideP (fun W (hW : Below w.heap.size w W) => hK W hW (fun k => decide (k.key.length = 0)) 169 #[] (enter_fn Try.func169 rfl rfl) (fun i W' hi hW' => nr3_any (n.kids.getD i default) (p.kp i) W' (hn.kid i hi)))
  have h4 := hideP (fun W (hW : Below w.heap.size w W) => hE W hW (fun e => e.live) 170 #[] (enter_fn Try.func170 rfl rfl) (fun i W' hi hW' => nr4_any (n.rows.getD i default) (p.rp i) W'))
  have h5 := hideP (fun W (hW : Below w.heap.size w W) (hd : W.cell? ⟨gd, 0, none⟩ = some (.int .i64 d)) => hK W hW (fun k => decide ((k.key.length : Int) = d) && !decide (k = kidZ)) 171 #[.pointer (some ⟨gd, 0, none⟩)] (enter_fn Try.func171 rfl rfl) (fun i W' hi hW' => nr5_any (n.kids.getD i default) (p.kp i) d gd W' (hn.kid i hi) ((hm.after (bstep hW hW')).kid i hi) ((Ext.of_below hW').cell hd)))
  have hRS : nodeR n d = nodeR n d := rfl
  unfold nodeR kindR at hRS
  obtain ⟨b1, e1⟩ : ∃ b, b = n.rows.all (fun e => decide ((e.row.length : Int) = d)) := ⟨_, rfl⟩
  obtain ⟨b2, e2⟩ : ∃ b, b = n.kids.all (fun k => kidR k d) := ⟨_, rfl⟩
  obtain ⟨b3, e3⟩ : ∃ b, b = n.kids.all (fun k => decide (k.key.length = 0)) := ⟨_, rfl⟩
  obtain ⟨b4, e4⟩ : ∃ b, b = n.rows.all (fun e => e.live) := ⟨_, rfl⟩
  obtain ⟨b5, e5⟩ : ∃ b, b = n.kids.all (fun k => decide ((k.key.length : Int) = d) && !decide (k = kidZ)) := ⟨_, rfl⟩
  obtain ⟨nr, f1⟩ : ∃ b, b = n.rows.length := ⟨_, rfl⟩
  obtain ⟨nk, f2⟩ : ∃ b, b = n.kids.length := ⟨_, rfl⟩
  obtain ⟨kd, f3⟩ : ∃ b, b = n.kind := ⟨_, rfl⟩
  obtain ⟨RS, f4⟩ : ∃ b, b = nodeR n d := ⟨_, rfl⟩
  have hR := hideP (show RS = (decide (1 ≤ d) && (decide (d ≤ 8) && (b1 && (b2 && (if kd = 1 then decide (nr = 1) && (decide (nk = 2) && b3) else if kd = 2 then decide (1 ≤ nr) && (decide (nr ≤ 4) && (decide (nk = 0) && b4)) else decide (kd = 3) && (decide (nr = 0) && (decide (2 ≤ nk) && (decide (nk ≤ 4) && b5)))))))) by rw [f4, e1, e2, e3, e4, e5, f1, f2, f3]; rfl)
  rw [← e1, ← f1] at h1
  rw [← e2, ← f2] at h2
  rw [← e3, ← f2] at h3
  rw [← e4, ← f1] at h4
  rw [← e5, ← f2] at h5
  rw [← f4]
  unfold nodeC
  rw [← f1, ← f2, ← f3]
  have hkd := hideP (show kd < 256 by rw [f3]; exact hn.kind)
  clear hRS hE hK e1 e2 e3 e4 e5 f1 f2 f3 f4 hn hm
  obtain ⟨rA, rc, rp, kA, kc, kp⟩ := p
  dsimp only at h1 h2 h3 h4 h5 ⊢
  obtain ⟨v, hv⟩ : ∃ v, v = (w.alloc (.cells #[.int .u8 (kd : Nat), .slice rA nr rc, .slice kA nk kc] 27)).alloc (.cells #[.int .i64 d] 3) := ⟨_, rfl⟩
  obtain ⟨g, hg⟩ : ∃ g, g = w.heap.size := ⟨_, rfl⟩
  have T0 := hideP (show Row v g 27 [.int .u8 (kd : Nat), .slice rA nr rc, .slice kA nk kc] by rw [hv, hg]; exact (Row.new w _ _).alloc _)
  have D0 := hideP (show v.cell? ⟨gd, 0, none⟩ = some (.int .i64 d) by rw [hv, hgd]; exact (One.new' _ _ _ _ (by simp)).c0)
  have B0 := hideP (show Below w.heap.size w v by rw [hv]; exact (below_new _ _).alloc (by simp) _)
  have Hv := hideP hv
  clear hv
  go_enter Try.func91, Try.ntmps91
  go_upto_region 1 with fail
  rw [← Hv.out, ← hgd, ← hg]
  clear hg hgd Hv
  obtain ⟨c0, c1, c2⟩ := nrow3 T0.out; have cd := D0.out
  by_cases q1 : 1 ≤ d
  case neg =>
    have i1 : decide (d < 1) = true := by simp; omega
    have hr := hideP (show RS = false by rw [hR.out]; simp [q1])
    clear q1
    go_wp2_with fail
    go_ret
    exact ⟨by rw [hr.out]; rfl, B0.out⟩
  have i1 : decide (d < 1) = false := by simp; omega
  by_cases q2 : d ≤ 8
  case neg =>
    have i2 : decide (8 < d) = true := by simp; omega
    have hr := hideP (show RS = false by rw [hR.out]; simp [q2])
    clear q1 q2
    go_wp2_with fail
    go_ret
    exact ⟨by rw [hr.out]; rfl, B0.out⟩
  have i2 : decide (8 < d) = false := by simp; omega
  have hR2 := hideP (show RS = (b1 && (b2 && (if kd = 1 then decide (nr = 1) && (decide (nk = 2) && b3) else if kd = 2 then decide (1 ≤ nr) && (decide (nr ≤ 4) && (decide (nk = 0) && b4)) else decide (kd = 3) && (decide (nr = 0) && (decide (2 ≤ nk) && (decide (nk ≤ 4) && b5)))))) by rw [hR.out]; simp [q1, q2])
  clear q1 q2 hR
  rcases b1 with _ | _
  · have hr := hideP (show RS = false by rw [hR2.out]; rfl)
    go_wp2_with (go_at_call 165; refine (h1.out v B0.out D0.out).mono ?_; rintro e w1 ⟨rfl, b_⟩; have B1 := hideP (bstep B0.out b_); clear b_)
    go_ret
    exact ⟨by rw [hr.out]; rfl, B1.out⟩
  rcases b2 with _ | _
  · have hr := hideP (show RS = false by rw [hR2.out]; rfl)
    go_wp2_with (first
      | (go_at_call 165; refine (h1.out v B0.out D0.out).mono ?_; rintro e w1 ⟨rfl, b_⟩; have B1 := hideP (bstep B0.out b_); have D1 := hideP ((Ext.of_below b_).cell D0.out); have T1 := hideP (Row.after T0.out b_); clear b_ c0 c1 c2 cd; obtain ⟨c0, c1, c2⟩ := nrow3 T1.out; have cd := D1.out)
      | (go_at_call 167; refine (h2.out w1 B1.out D1.out).mono ?_; rintro e w2 ⟨rfl, b_⟩; have B2 := hideP (bstep B1.out b_); clear b_ c0 c1 c2 cd))
    go_ret
    exact ⟨by rw [hr.out]; rfl, B2.out⟩
  go_upto_region 3 with (first
    | (go_at_call 165; refine (h1.out v B0.out D0.out).mono ?_; rintro e w1 ⟨rfl, b_⟩; have B1 := hideP (bstep B0.out b_); have D1 := hideP ((Ext.of_below b_).cell D0.out); have T1 := hideP (Row.after T0.out b_); clear b_ c0 c1 c2 cd; obtain ⟨c0, c1, c2⟩ := nrow3 T1.out; have cd := D1.out)
    | (go_at_call 167; refine (h2.out w1 B1.out D1.out).mono ?_; rintro e w2 ⟨rfl, b_⟩; have B2 := hideP (bstep B1.out b_); have D2 := hideP ((Ext.of_below b_).cell D1.out); have T2 := hideP (Row.after T1.out b_); clear b_ c0 c1 c2 cd; obtain ⟨c0, c1, c2⟩ := nrow3 T2.out; have cd := D2.out))
  clear B0 B1 D0 D1 T0 T1 h1 h2 i1 i2
  by_cases k1 : kd = 1
  · have hr := hideP (show RS = (decide (nr = 1) && (decide (nk = 2) && b3)) by rw [hR2.out]; simp [k1])
    clear hR2 hkd
    subst k1
    by_cases r1 : nr = 1
    · have j1 : ((nr : Int) == 1) = true := by simp [r1]
      by_cases r2 : nk = 2
      · have j2 : ((nk : Int) == 2) = true := by simp [r2]
        have hr2 := hideP (show RS = b3 by rw [hr.out]; simp [r1, r2])
        clear r1 r2 hr
        go_wp2_with (go_at_call 167; refine (h3.out w2 B2.out).mono ?_; rintro e w3 ⟨rfl, b_⟩; have B3 := hideP (bstep B2.out b_); clear b_)
        go_ret
        exact ⟨by rw [hr2.out]; rfl, B3.out⟩
      · have j2 : ((nk : Int) == 2) = false := by simp; omega
        have hr2 := hideP (show RS = false by rw [hr.out]; simp [r2])
        clear r1 r2 hr
        go_wp2_with fail
        go_ret
        exact ⟨by rw [hr2.out]; rfl, B2.out⟩
    · have j1 : ((nr : Int) == 1) = false := by simp; omega
      have hr2 := hideP (show RS = false by rw [hr.out]; simp [r1])
      clear r1 hr
      go_wp2_with fail
      go_ret
      exact ⟨by rw [hr2.out]; rfl, B2.out⟩
  have u1 : ((kd : Int) == 1) = false := by simp; omega
  by_cases k2 : kd = 2
  · have hr := hideP (show RS = (decide (1 ≤ nr) && (decide (nr ≤ 4) && (decide (nk = 0) && b4))) by rw [hR2.out]; simp [k2])
    clear hR2 hkd k1 u1
    subst k2
    by_cases r1 : 1 ≤ nr
    · have j1 : decide ((1 : Int) ≤ (nr : Int)) = true := by simp; omega
      have j1' : (1 : Int) ≤ (nr : Int) := by omega
      by_cases r2 : nr ≤ 4
      · have j2 : decide ((nr : Int) ≤ 4) = true := by simp; omega
        have j2' : (nr : Int) ≤ 4 := by omega
        by_cases r3 : nk = 0
        · have j3 : ((nk : Int) == 0) = true := by simp [r3]
          have hr2 := hideP (show RS = b4 by rw [hr.out]; simp [r1, r2, r3])
          clear r1 r2 r3 hr
          go_wp2_with (go_at_call 165; refine (h4.out w2 B2.out).mono ?_; rintro e w3 ⟨rfl, b_⟩; have B3 := hideP (bstep B2.out b_); clear b_)
          go_ret
          exact ⟨by rw [hr2.out]; rfl, B3.out⟩
        · have j3 : ((nk : Int) == 0) = false := by simp; omega
          have hr2 := hideP (show RS = false by rw [hr.out]; simp [r3])
          clear r1 r2 r3 hr
          go_wp2_with fail
          go_ret
          exact ⟨by rw [hr2.out]; rfl, B2.out⟩
      · have j2 : decide ((nr : Int) ≤ 4) = false := by simp; omega
        have j2' : ¬ (nr : Int) ≤ 4 := by omega
        have hr2 := hideP (show RS = false by rw [hr.out]; simp [r2])
        clear r1 r2 hr
        go_wp2_with fail
        go_ret
        exact ⟨by rw [hr2.out]; rfl, B2.out⟩
    · have j1 : decide ((1 : Int) ≤ (nr : Int)) = false := by simp; omega
      have j1' : ¬ (1 : Int) ≤ (nr : Int) := by omega
      have hr2 := hideP (show RS = false by rw [hr.out]; simp [r1])
      clear r1 hr
      go_wp2_with fail
      go_ret
      exact ⟨by rw [hr2.out]; rfl, B2.out⟩
  have u2 : ((kd : Int) == 2) = false := by simp; omega
  by_cases k3 : kd = 3
  · have hr := hideP (show RS = (decide (nr = 0) && (decide (2 ≤ nk) && (decide (nk ≤ 4) && b5))) by rw [hR2.out]; simp [k3])
    clear hR2 hkd k1 u1 k2 u2
    subst k3
    by_cases r1 : nr = 0
    · have j1 : ((nr : Int) == 0) = true := by simp [r1]
      by_cases r2 : 2 ≤ nk
      · have j2 : decide ((2 : Int) ≤ (nk : Int)) = true := by simp; omega
        have j2' : (2 : Int) ≤ (nk : Int) := by omega
        by_cases r3 : nk ≤ 4
        · have j3 : decide ((nk : Int) ≤ 4) = true := by simp; omega
          have j3' : (nk : Int) ≤ 4 := by omega
          have hr2 := hideP (show RS = b5 by rw [hr.out]; simp [r1, r2, r3])
          clear r1 r2 r3 hr
          go_wp2_with (go_at_call 167; refine (h5.out w2 B2.out D2.out).mono ?_; rintro e w3 ⟨rfl, b_⟩; have B3 := hideP (bstep B2.out b_); clear b_)
          go_ret
          exact ⟨by rw [hr2.out]; rfl, B3.out⟩
        · have j3 : decide ((nk : Int) ≤ 4) = false := by simp; omega
          have j3' : ¬ (nk : Int) ≤ 4 := by omega
          have hr2 := hideP (show RS = false by rw [hr.out]; simp [r3])
          clear r1 r2 r3 hr
          go_wp2_with fail
          go_ret
          exact ⟨by rw [hr2.out]; rfl, B2.out⟩
      · have j2 : decide ((2 : Int) ≤ (nk : Int)) = false := by simp; omega
        have j2' : ¬ (2 : Int) ≤ (nk : Int) := by omega
        have hr2 := hideP (show RS = false by rw [hr.out]; simp [r2])
        clear r1 r2 hr
        go_wp2_with fail
        go_ret
        exact ⟨by rw [hr2.out]; rfl, B2.out⟩
    · have j1 : ((nr : Int) == 0) = false := by simp; omega
      have hr2 := hideP (show RS = false by rw [hr.out]; simp [r1])
      clear r1 hr
      go_wp2_with fail
      go_ret
      exact ⟨by rw [hr2.out]; rfl, B2.out⟩
  have u3 : ((kd : Int) == 3) = false := by simp; omega
  have hr := hideP (show RS = false by rw [hR2.out]; simp [k1, k2, k3])
  clear k1 k2 k3 hR2 hkd
  go_wp2_with fail
  go_ret
  exact ⟨by rw [hr.out]; rfl, B2.out⟩
end Go.Proofs.Ytgcbodpjidoanaa
namespace Go.Proofs.Ytgcbodpjidoanaa
open Go.RowKit
def entB (e : EntD) : List Nat := [if e.live then 1 else 0] ++ rowB e.row
def kidB (k : KidD) : List Nat := k.sum ++ be3 k.live.toNat ++ be3 k.size.toNat ++ rowB k.lo ++ rowB k.hi ++ rowB k.key
def nodeB (n : NodeD) : List Nat := [n.kind] ++ [n.rows.length] ++ (n.rows.map entB).flatten ++ [n.kids.length] ++ (n.kids.map kidB).flatten
theorem kidR_facts {k : KidD} {d : Int} (h : kidR k d = true) : (0 ≤ k.live ∧ k.live ≤ 1048576) ∧ (0 ≤ k.size ∧ k.size ≤ 1048576) ∧ k.lo.length ≤ 8 ∧ k.hi.length ≤ 8 := by
  unfold kidR at h
  simp only [Bool.or_eq_true, Bool.and_eq_true, decide_eq_true_eq] at h
  rcases h with rfl | ⟨h1, h2, h3, h4, h5⟩
  · simp [kidZ]
  · refine ⟨by omega, by omega, ?_⟩
    split at h5
    · simp only [Bool.and_eq_true, decide_eq_true_eq] at h5
      omega
    · have := rightB_len h5
      omega
structure NodeF (n : NodeD) (d : Int) : Prop where
  d : 1 ≤ d ∧ d ≤ 8
  kind : n.kind ≤ 3
  rows : n.rows.length ≤ 4
  kids : n.kids.length ≤ 4
  row : ∀ i, i < n.rows.length → (n.rows.getD i default).row.length ≤ 8
  kid : ∀ i, i < n.kids.length → ((0 ≤ (n.kids.getD i default).live ∧ (n.kids.getD i default).live ≤ 1048576) ∧ (0 ≤ (n.kids.getD i default).size ∧ (n.kids.getD i default).size ≤ 1048576) ∧ (n.kids.getD i default).lo.length ≤ 8 ∧ (n.kids.getD i default).hi.length ≤ 8) ∧ (n.kids.getD i default).key.length ≤ 8
theorem getD_mem' {α : Type} [Inhabited α] {l : List α} {i : Nat} (hi : i < l.length) : l.getD i default ∈ l := by
  simp only [List.getD, List.getElem?_eq_getElem hi, Option.getD_some]
  exact List.getElem_mem hi
theorem nodeR_facts {n : NodeD} {d : Int} (h : nodeR n d = true) : NodeF n d := by
  unfold nodeR at h
  simp only [Bool.and_eq_true, decide_eq_true_eq, List.all_eq_true] at h
  obtain ⟨h1, h2, h3, h4, h5⟩ := h
  have hrow : ∀ i, i < n.rows.length → (n.rows.getD i default).row.length ≤ 8 := fun i hi => by
    have := h3 _ (getD_mem' hi); omega
  have hk := fun i (hi : i < n.kids.length) => kidR_facts (h4 _ (getD_mem' hi))
  unfold kindR at h5
  split at h5
  · rename_i e
    simp only [Bool.and_eq_true, decide_eq_true_eq, List.all_eq_true] at h5
    obtain ⟨a, b, c⟩ := h5
    exact ⟨⟨h1, h2⟩, by omega, by omega, by omega, hrow, fun i hi => ⟨hk i hi, by have := c _ (getD_mem' hi); omega⟩⟩
  · split at h5
    · rename_i e
      simp only [Bool.and_eq_true, decide_eq_true_eq] at h5
      obtain ⟨a, b, c, _⟩ := h5
      exact ⟨⟨h1, h2⟩, by omega, by omega, by omega, hrow, fun i hi => absurd hi (by omega)⟩
    · simp only [Bool.and_eq_true, decide_eq_true_eq, List.all_eq_true] at h5
      obtain ⟨e, a, b, c, f⟩ := h5
      exact ⟨⟨h1, h2⟩, by omega, by omega, by omega, hrow, fun i hi => ⟨hk i hi, by have := (f _ (getD_mem' hi)).1; omega⟩⟩
theorem rowB_len (r : List Int) : (rowB r).length = 1 + 8 * r.length := by
  unfold rowB; rw [List.length_append, rows_len]; rfl
theorem flat_take_succ {α : Type} [Inhabited α] (f : α → List Nat) (l : List α) (i : Nat) (hi : i < l.length) : ((l.take (i + 1)).map f).flatten = ((l.take i).map f).flatten ++ f (l.getD i default) := by
  rw [List.take_add_one, List.map_append, List.flatten_append, List.getElem?_eq_getElem hi]
  simp [List.getD, List.getElem?_eq_getElem hi]
theorem flat_len_le {α : Type} [Inhabited α] (f : α → List Nat) (l : List α) (M : Nat) (h : ∀ i, i < l.length → (f (l.getD i default)).length ≤ M) : ∀ k, k ≤ l.length → (((l.take k).map f).flatten).length ≤ k * M
  | 0, _ => by simp
  | k + 1, hk => by
    rw [flat_take_succ f l k (by omega), List.length_append, Nat.succ_mul]
    have := h k (by omega)
    have := flat_len_le f l M h k (by omega)
    omega
theorem WrP.row {S : Nat → Prop} {v w : World} {g G : Nat} {l : List Nat} {e : Int} {t : TypeId} {cs : List Value} (h : WrP S v w g l e) (r : Row v G t cs) (hn : ¬ S G) : Row w G t cs := by
  obtain ⟨_, m, _⟩ := h
  exact r.mv m hn
theorem ext_setNew (w : World) (o : Obj) (C : Array Value) : Ext w ((w.alloc o).setRow w.heap.size C) := Ext.of_below (below_setRow' (below_new w o) (Nat.le_refl _) C)
set_option maxRecDepth 100000 in
set_option maxHeartbeats 1000000 in
theorem nencode_no (n : NodeD) (p : NodeP) (d : Int) (w : World) (hn : NodeOk n) (hm : NodeMem w w.heap.size n p) (hr : nodeR n d = false) :
    Calls Try.prog 92 #[.agg (nodeC n p).toArray, .int .i64 d] w fun e w' => e = .returned (.tuple #[.slice none 0 0, .int .i64 1]) ∧ Below w.heap.size w w' := by
  have hR := fun W (hW : Below w.heap.size w W) => nright_any n p d W hn (hm.after hW)
  rw [hr] at hR
  unfold nodeC at hR ⊢
  obtain ⟨nr, f1⟩ : ∃ b, b = n.rows.length := ⟨_, rfl⟩
  obtain ⟨nk, f2⟩ : ∃ b, b = n.kids.length := ⟨_, rfl⟩
  obtain ⟨kd, f3⟩ : ∃ b, b = n.kind := ⟨_, rfl⟩
  rw [← f1, ← f2, ← f3] at hR ⊢
  have hR := hideP hR
  have hb := hideP (below_new w (.cells #[.int .u8 (kd : Nat), .slice p.rA nr p.rc, .slice p.kA nk p.kc] 27))
  clear f1 f2 f3 hm hn hr
  go_enter Try.func92, Try.ntmps92
  go_wp2_with (go_at_call 91; refine (hR.out _ hb.out).mono ?_; rintro e1 w1 ⟨rfl, b_⟩; have B1 := hideP (bstep hb.out b_); clear b_)
  go_ret2
  exact ⟨rfl, B1.out⟩
end Go.Proofs.Ytgcbodpjidoanaa
