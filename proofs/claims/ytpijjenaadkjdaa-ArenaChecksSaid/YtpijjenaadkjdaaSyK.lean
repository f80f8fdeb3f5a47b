/- Rows whose elements hold rows of their own ('deep'): the elements' rows are ours, one by one. -/
import Derived.Test.YtpijjenaadkjdaaSyJ
namespace Go.Proofs.Ytpijjenaadkjdaa.Sy
open Go Am
open Cell (rc)
set_option linter.unusedVariables false
set_option linter.unusedSectionVars false
set_option linter.unusedSimpArgs false

abbrev Bk := Nat × List Value × Nat
/-- A struct with one row in it: 'row' the row; 'drc v' its cells, where v is the row's value. -/
class DCell (α : Type) (β : outParam Type) [Cell α] [Cell β] where
  row : α → List β
  drc : Value → List Value → α → Prop
  rcd : ∀ {Z : Zn} {cs : List Value} {x : α} {v : Value}, RS (α := β) Z v (row x) → drc v cs x → rc Z cs x
  dlen : ∀ {v : Value} {cs : List Value} {x : α}, drc v cs x → cs.length = Cell.size α
  done : ∀ {v : Value} {cs : List Value} {x : α}, Value.oneCell' v = true → drc v cs x → cs.all Value.oneCell' = true
  inj : ∀ {v w : Value} {cs : List Value} {x : α}, drc v cs x → drc w cs x → v = w
  fn : ∀ {v : Value} {cs cs' : List Value} {x : α}, drc v cs x → drc v cs' x → cs = cs'
structure DV (α : Type) where
  x : α
  v : Value
section
variable {α β : Type} [Cell α] [Cell β] [DCell α β]
instance : Cell (DV α) where
  size := Cell.size α
  rc _ cs d := Value.oneCell' d.v = true ∧ DCell.drc d.v cs d.x
  len h := DCell.dlen h.2
  mono _ h := h
  one h := DCell.done h.1 h.2
  pos := Cell.pos (α := α)
variable {P : Program} {l : KL} {h h' : AH} {h0 : AH} {D : List Nat} {Z0 Z Z' : Zn} {Rv : Nat × Nat} {L L' : List Itm}
variable {v w : Value} {cells : List Value} {xs : List α} {bs : List Bk}
/-- A row that is ours: its block. -/
def OwnR (Z : Zn) (v : Value) (ys : List β) (k : List Bk) : Prop :=
  ∃ cells, RCs Z cells ys ∧ ((v = .slice none 0 0 ∧ cells = [] ∧ k = []) ∨ ∃ b n c, v = .slice (some ⟨b, 0, none⟩) n c ∧ n * csz β = cells.length ∧ (c = n ∨ c = n + 1) ∧ k = [(b, cells, csz β)])
def Own (Z : Zn) : List (DV α) → List Bk → Prop
  | [], bs => bs = []
  | d :: ds, bs => ∃ k r, bs = k ++ r ∧ OwnR Z d.v (DCell.row (β := β) d.x) k ∧ Own Z ds r
/-- A deep row: the array's cells, the elements, the blocks of their rows. -/
def RD (Z : Zn) (cells : List Value) (xs : List α) (bs : List Bk) : Prop :=
  ∃ ds : List (DV α), ds.map DV.x = xs ∧ RCs Z cells ds ∧ Own Z ds bs
/-- The same, where the row of element i has been taken out; its value was w. -/
def RH (Z : Zn) (cells : List Value) (xs : List α) (bs : List Bk) (i : Nat) (w : Value) : Prop :=
  ∃ (ds1 : List (DV α)) (d : DV α) (ds2 : List (DV α)) (b1 b2 : List Bk), (ds1 ++ d :: ds2).map DV.x = xs ∧ ds1.length = i ∧ d.v = w ∧ RCs Z cells (ds1 ++ d :: ds2) ∧ bs = b1 ++ b2 ∧ Own Z ds1 b1 ∧ Own Z ds2 b2
theorem OwnR.mono (hz : Zle Z Z') {v : Value} {ys : List β} {k : List Bk} (hO : OwnR Z v ys k) : OwnR Z' v ys k := by
  obtain ⟨cells, h1, h2⟩ := hO
  exact ⟨cells, h1.mono hz, h2⟩
theorem Own.mono (hz : Zle Z Z') : ∀ {ds : List (DV α)} {bs : List Bk}, Own Z ds bs → Own Z' ds bs := by
  intro ds
  induction ds with
  | nil => intro bs h; exact h
  | cons d ds ih =>
    rintro bs ⟨k, r, rfl, h1, h2⟩
    exact ⟨k, r, rfl, h1.mono hz, ih h2⟩
theorem RD.mono (hz : Zle Z Z') (hR : RD Z cells xs bs) : RD Z' cells xs bs := by
  obtain ⟨ds, h1, h2, h3⟩ := hR
  exact ⟨ds, h1, h2.mono hz, h3.mono hz⟩
theorem RH.mono (hz : Zle Z Z') {i : Nat} (hR : RH Z cells xs bs i w) : RH Z' cells xs bs i w := by
  obtain ⟨ds1, d, ds2, b1, b2, h1, h2, h3, h4, h5, h6, h7⟩ := hR
  exact ⟨ds1, d, ds2, b1, b2, h1, h2, h3, h4.mono hz, h5, h6.mono hz, h7.mono hz⟩
theorem Own.append : ∀ {d1 d2 : List (DV α)} {b1 b2 : List Bk}, Own Z d1 b1 → Own Z d2 b2 → Own Z (d1 ++ d2) (b1 ++ b2) := by
  intro d1
  induction d1 with
  | nil => intro d2 b1 b2 h1 h2; simp only [Own] at h1; subst h1; exact h2
  | cons d d1 ih =>
    rintro d2 b1 b2 ⟨k, r, rfl, h1, h2⟩ h3
    exact ⟨k, r ++ b2, by rw [List.append_assoc], h1, ih h2 h3⟩
theorem Own.split : ∀ {d1 d2 : List (DV α)} {bs : List Bk}, Own Z (d1 ++ d2) bs → ∃ b1 b2, bs = b1 ++ b2 ∧ Own Z d1 b1 ∧ Own Z d2 b2 := by
  intro d1
  induction d1 with
  | nil => intro d2 bs h; exact ⟨[], bs, rfl, rfl, h⟩
  | cons d d1 ih =>
    rintro d2 bs ⟨k, r, rfl, h1, h2⟩
    obtain ⟨b1, b2, rfl, q1, q2⟩ := ih h2
    exact ⟨k ++ b1, b2, by rw [List.append_assoc], ⟨k, b1, rfl, h1, q1⟩, q2⟩
theorem RD.raw (hR : RD Z cells xs bs) : ∃ ds : List (DV α), ds.map DV.x = xs ∧ RCs Z cells ds := ⟨hR.choose, hR.choose_spec.1, hR.choose_spec.2.1⟩
theorem RH.raw {i : Nat} (hR : RH Z cells xs bs i w) : ∃ ds : List (DV α), ds.map DV.x = xs ∧ RCs Z cells ds := by
  obtain ⟨ds1, d, ds2, b1, b2, h1, h2, h3, h4, h5, h6, h7⟩ := hR
  exact ⟨_, h1, h4⟩
theorem St.dlen (hS : St h0 D Z0 Rv Z h L) {i : Nat} (hi : L[i]? = some (.gs v cells (csz α))) (hR : ∃ ds : List (DV α), ds.map DV.x = xs ∧ RCs Z cells ds) : lenOf v = some xs.length := by
  obtain ⟨ds, rfl, h2⟩ := hR
  rw [List.length_map]
  exact hS.glen (α := DV α) hi h2
theorem St.dbased (hS : St h0 D Z0 Rv Z h L) {i : Nat} (hi : L[i]? = some (.gs v cells (csz α))) (hR : ∃ ds : List (DV α), ds.map DV.x = xs ∧ RCs Z cells ds) (hn : 0 < xs.length) : Based v xs.length := by
  obtain ⟨ds, rfl, h2⟩ := hR
  rw [List.length_map] at hn ⊢
  exact hS.gbased (α := DV α) hi h2 hn
theorem St.del (hS : St h0 D Z0 Rv Z h L) {j : Nat} (hi : L[j]? = some (.gs v cells (csz α))) (hR : ∃ ds : List (DV α), ds.map DV.x = xs ∧ RCs Z cells ds) {i : Int} {x : α} (hx : xs[i.toNat]? = some x) :
    ∃ w cs, DCell.drc (β := β) w cs x ∧ Value.oneCell' w = true ∧ ElAt h v i (csz α) cs ∧ (cells.drop (i.toNat * csz α)).take (csz α) = cs := by
  obtain ⟨ds, rfl, h2⟩ := hR
  rw [List.getElem?_map] at hx
  obtain ⟨d, hd, rfl⟩ := Option.map_eq_some_iff.1 hx
  obtain ⟨cs, q1, q2, q3⟩ := hS.gel (α := DV α) hi h2 hd
  exact ⟨d.v, cs, q1.2, q1.1, q2, q3⟩
theorem Own.at : ∀ {ds : List (DV α)} {bs : List Bk} {i : Nat} {d : DV α}, Own Z ds bs → ds[i]? = some d → ∃ d1 d2 b1 k b2, ds = d1 ++ d :: d2 ∧ d1.length = i ∧ bs = b1 ++ (k ++ b2) ∧ Own Z d1 b1 ∧ OwnR Z d.v (DCell.row (β := β) d.x) k ∧ Own Z d2 b2 := by
  intro ds
  induction ds with
  | nil => intro bs i d h hd; simp at hd
  | cons e ds ih =>
    rintro bs i d ⟨k, r, rfl, h1, h2⟩ hd
    cases i with
    | zero => simp at hd; subst hd; exact ⟨[], ds, [], k, r, rfl, rfl, rfl, rfl, h1, h2⟩
    | succ i =>
      simp only [List.getElem?_cons_succ] at hd
      obtain ⟨d1, d2, b1, k', b2, rfl, rfl, rfl, q1, q2, q3⟩ := ih h2 hd
      exact ⟨e :: d1, d2, k ++ b1, k', b2, rfl, rfl, by simp only [List.append_assoc], ⟨k, b1, rfl, h1, q1⟩, q2, q3⟩
/-! ### Groups of blocks -/
theorem St.grpNil (hS : St h0 D Z0 Rv Z h L) : St h0 D Z0 Rv Z h (.grp [] :: L) :=
  hS.add _ (fun _ _ _ => rfl) ⟨List.nodup_nil, fun x hx => by cases hx⟩ (fun b hb => by simp [Itm.ids] at hb) (Nat.le_refl _) hS.liv (fun _ q => q)
/-- Items that hold the same blocks. -/
theorem St.swap {A A' : List Itm} (hS : St h0 D Z0 Rv Z h (A ++ L)) (hok : (∀ p ∈ A, p.ok h) → A.Pairwise (fun p q => ∀ b ∈ p.ids, b ∉ q.ids) → (∀ p ∈ A', p.ok h) ∧ A'.Pairwise (fun p q => ∀ b ∈ p.ids, b ∉ q.ids)) (hid : ∀ b, b ∈ idsL A' → b ∈ idsL A) : St h0 D Z0 Rv Z h (A' ++ L) := by
  obtain ⟨d1, d2, d3⟩ := List.pairwise_append.1 hS.dj
  obtain ⟨o1, o2⟩ := hok (fun p hp => hS.ok p (List.mem_append_left _ hp)) d1
  have hin : ∀ p ∈ A', ∀ b ∈ p.ids, ∃ q ∈ A, b ∈ q.ids := fun p hp b hb => mem_idsL.1 (hid b (mem_idsL.2 ⟨p, hp, hb⟩))
  exact { hS with
    ok := fun p hp => by
      rcases List.mem_append.1 hp with hp | hp
      · exact o1 p hp
      · exact hS.ok p (List.mem_append_right _ hp)
    dj := List.pairwise_append.2 ⟨o2, d2, fun p hp q hq b hb hbq => by
      obtain ⟨r, hr, hbr⟩ := hin p hp b hb
      exact d3 r hr q hq b hbr hbq⟩
    dz := fun p hp b hb => by
      rcases List.mem_append.1 hp with hp | hp
      · obtain ⟨r, hr, hbr⟩ := hin p hp b hb
        exact hS.dz r (List.mem_append_left _ hr) b hbr
      · exact hS.dz p (List.mem_append_right _ hp) b hb
    new := fun p hp b hb => by
      rcases List.mem_append.1 hp with hp | hp
      · obtain ⟨r, hr, hbr⟩ := hin p hp b hb
        exact hS.new r (List.mem_append_left _ hr) b hbr
      · exact hS.new p (List.mem_append_right _ hp) b hb }
theorem grp_ids (bs : List Bk) : (Itm.grp bs).ids = bs.map (·.1) := rfl
theorem St.grpApp {a b : List Bk} (hS : St h0 D Z0 Rv Z h (.grp a :: .grp b :: L)) : St h0 D Z0 Rv Z h (.grp (a ++ b) :: L) := by
  refine St.swap (A := [.grp a, .grp b]) (A' := [.grp (a ++ b)]) hS (fun o d => ⟨fun p hp => ?_, List.pairwise_singleton _ _⟩) (fun x hx => ?_)
  · simp only [List.mem_singleton] at hp
    subst hp
    have oa := o (.grp a) (by simp)
    have ob := o (.grp b) (by simp)
    have dab : ∀ x ∈ (Itm.grp a).ids, x ∉ (Itm.grp b).ids := by simpa using d
    refine ⟨?_, fun x hx => ?_⟩
    · rw [List.map_append, List.nodup_append]
      exact ⟨oa.1, ob.1, fun x hx y hy e => dab x hx (by rw [e]; exact hy)⟩
    · rcases List.mem_append.1 hx with q | q
      · exact oa.2 x q
      · exact ob.2 x q
  · simp only [idsL, List.flatMap_cons, List.flatMap_nil, List.append_nil, grp_ids, List.map_append] at hx ⊢
    exact hx
theorem St.grpSplit {a b : List Bk} (hS : St h0 D Z0 Rv Z h (.grp (a ++ b) :: L)) : St h0 D Z0 Rv Z h (.grp a :: .grp b :: L) := by
  refine St.swap (A := [.grp (a ++ b)]) (A' := [.grp a, .grp b]) hS (fun o d => ?_) (fun x hx => ?_)
  · have oa := o (.grp (a ++ b)) (by simp)
    have on := oa.1
    rw [List.map_append, List.nodup_append] at on
    refine ⟨fun p hp => ?_, ?_⟩
    · simp only [List.mem_cons, List.not_mem_nil, or_false] at hp
      rcases hp with rfl | rfl
      · exact ⟨on.1, fun x hx => oa.2 x (List.mem_append_left _ hx)⟩
      · exact ⟨on.2.1, fun x hx => oa.2 x (List.mem_append_right _ hx)⟩
    · simp only [List.pairwise_cons, List.mem_singleton, forall_eq, List.not_mem_nil, false_imp_iff, implies_true, List.Pairwise.nil, and_true]
      exact fun x hx hy => on.2.2 x hx x hy rfl
  · simp only [idsL, List.flatMap_cons, List.flatMap_nil, List.append_nil, grp_ids, List.map_append] at hx ⊢
    exact hx
/-- A row that is ours, as a group; and back. -/
theorem St.toGrp {v : Value} {ck : List Value} {ys : List β} (hS : St h0 D Z0 Rv Z h (.gs v ck (csz β) :: L)) (hR : RCs Z ck ys) : ∃ k, OwnR Z v ys k ∧ St h0 D Z0 Rv Z h (.grp k :: L) := by
  rcases hS.ok _ List.mem_cons_self with ⟨rfl, rfl⟩ | ⟨b, n, c, rfl, h1, h2, h3⟩
  · exact ⟨[], ⟨[], hR, .inl ⟨rfl, rfl, rfl⟩⟩, hS.tail.grpNil⟩
  · refine ⟨[(b, ck, csz β)], ⟨ck, hR, .inr ⟨b, n, c, rfl, h1, h2, rfl⟩⟩, St.swap (A := [.gs (.slice (some ⟨b, 0, none⟩) n c) ck (csz β)]) (A' := [.grp [(b, ck, csz β)]]) hS (fun o d => ⟨fun p hp => ?_, List.pairwise_singleton _ _⟩) (fun x hx => hx)⟩
    simp only [List.mem_singleton] at hp
    subst hp
    exact ⟨by simp, fun x hx => by simp only [List.mem_singleton] at hx; subst hx; exact h3⟩
theorem St.ofGrp {v : Value} {k : List Bk} {ys : List β} (hS : St h0 D Z0 Rv Z h (.grp k :: L)) (hR : OwnR Z v ys k) : ∃ ck, RCs Z ck ys ∧ St h0 D Z0 Rv Z h (.gs v ck (csz β) :: L) := by
  obtain ⟨ck, hR, ⟨rfl, rfl, rfl⟩ | ⟨b, n, c, rfl, h1, h2, rfl⟩⟩ := hR
  · exact ⟨[], hR, hS.tail.nilGs _⟩
  · refine ⟨ck, hR, St.swap (A := [.grp [(b, ck, csz β)]]) (A' := [.gs (.slice (some ⟨b, 0, none⟩) n c) ck (csz β)]) hS (fun o d => ⟨fun p hp => ?_, List.pairwise_singleton _ _⟩) (fun x hx => hx)⟩
    simp only [List.mem_singleton] at hp
    subst hp
    exact .inr ⟨b, n, c, rfl, h1, h2, (o (.grp [(b, ck, csz β)]) (by simp)).2 (b, ck, csz β) (by simp)⟩
/-! ### What is done with them -/
theorem RD.nil : RD (α := α) Z [] [] [] := ⟨[], rfl, rfl, rfl⟩
theorem St.dnil (hS : St h0 D Z0 Rv Z h L) (s : Nat) : St h0 D Z0 Rv Z h (.gs (.slice none 0 0) [] s :: .grp [] :: L) := hS.grpNil.nilGs s
/-- A row of one element, whose row is ours. -/
theorem RD.one {cs : List Value} {x : α} {k : List Bk} (hd : DCell.drc (β := β) w cs x) (ho : Value.oneCell' w = true) (hO : OwnR Z w (DCell.row (β := β) x) k) : RD Z cs [x] k :=
  ⟨[⟨x, w⟩], rfl, RCs.single (x := (⟨x, w⟩ : DV α)) ⟨ho, hd⟩, k, [], by simp, hO, rfl⟩
theorem OwnR.nil : OwnR (β := β) Z (.slice none 0 0) [] [] := ⟨[], rfl, .inl ⟨rfl, rfl, rfl⟩⟩
/-- The row of an element is taken out. -/
theorem St.dtake (hS : St h0 D Z0 Rv Z h (.gs v cells (csz α) :: .grp bs :: L)) (hR : RD Z cells xs bs) {i : Int} {x : α} (hx : xs[i.toNat]? = some x) :
    ∃ w cs ck bs', DCell.drc (β := β) w cs x ∧ ElAt h v i (csz α) cs ∧ RCs Z ck (DCell.row (β := β) x) ∧ RH Z cells xs bs' i.toNat w ∧ St h0 D Z0 Rv Z h (.gs w ck (csz β) :: .gs v cells (csz α) :: .grp bs' :: L) := by
  obtain ⟨ds, rfl, h2, h3⟩ := hR
  rw [List.getElem?_map] at hx
  obtain ⟨d, hd, rfl⟩ := Option.map_eq_some_iff.1 hx
  obtain ⟨cs, q1, q2, q3⟩ := hS.gel (α := DV α) (j := 0) rfl h2 hd
  obtain ⟨d1, d2, b1, k, b2, rfl, hl, rfl, o1, o2, o3⟩ := h3.at hd
  have hS1 := (hS.front 1 rfl).grpSplit
  have hS2 := (hS1.front 1 rfl).grpSplit
  obtain ⟨ck, hck, hS3⟩ := hS2.ofGrp o2
  have hS4 := ((hS3.front 1 rfl).front 2 rfl).grpApp
  refine ⟨d.v, cs, ck, b1 ++ b2, q1.2, q2, hck, ⟨d1, d, d2, b1, b2, rfl, hl, rfl, h2, rfl, o1, o3⟩, ?_⟩
  exact ((hS4.front 1 rfl).front 2 rfl).front 1 rfl
/-- A store of a scalar. -/
theorem o_sted {t : TypeId} {x y : Operand} {u : Value} {i : Int} {j m : Nat} {cs cs' vs : List Value} {z z' : α} (hS : St h0 D Z0 Rv Z h L) (hi : L[m]? = some (.gs v cells (csz α))) (hR : RD Z cells xs bs)
    (hu : xs[i.toNat]? = some z) (hcs : (cells.drop (i.toNat * csz α)).take (csz α) = cs)
    (hx : opv l x = some (.pointer (some (elemA v i (csz α) j)))) (hy : opv l y = some u) (hvs : stV u = vs) (ht : tsize P t = some vs.length) (hone : vs.all Value.oneCell' = true) (hl : Nat.ble (j + vs.length) cs.length = true)
    (hc : cs.take j ++ vs ++ cs.drop (j + vs.length) = cs') (hd0 : DCell.drc (β := β) w cs z) (hd1 : DCell.drc (β := β) w cs' z') (hrow : DCell.row (β := β) z' = DCell.row z) :
    ∃ h' cells', OpTo P l (.store t x y) h undef h' ∧ RD Z cells' (xs.set i.toNat z') bs ∧ St h0 D Z0 Rv Z h' (L.set m (.gs v cells' (csz α))) := by
  obtain ⟨ds, rfl, h2, h3⟩ := hR
  rw [List.getElem?_map] at hu
  obtain ⟨d, hd, rfl⟩ := Option.map_eq_some_iff.1 hu
  obtain ⟨cs0, q1, q2, q3⟩ := hS.gel (α := DV α) hi h2 hd
  have e : cs0 = cs := q3.symm.trans hcs
  subst e
  obtain ⟨h', c', r1, r2, r3⟩ := o_ste (α := DV α) (u' := ⟨z', d.v⟩) hS hi h2 hd hcs hx hy hvs ht hone hl hc ⟨q1.1, by rw [DCell.inj q1.2 hd0]; exact hd1⟩
  refine ⟨h', c', r1, ⟨_, ?_, r2, ?_⟩, r3⟩
  · rw [List.map_set]
  · obtain ⟨d1, d2, b1, k, b2, rfl, hl, rfl, o1, o2, o3⟩ := h3.at hd
    rw [← hl, List.set_append_right _ _ (Nat.le_refl _), Nat.sub_self, List.set_cons_zero]
    exact o1.append ⟨k, b2, rfl, by rw [show DCell.row (β := β) (DV.mk z' d.v).x = DCell.row d.x from hrow]; exact o2, o3⟩
/-- A row is put into an element whose own one has been taken out. -/
theorem o_dput {t : TypeId} {x y : Operand} {u : Value} {ck cs cs' : List Value} {ys : List β} {i : Int} {j : Nat} {z z' : α} (hS : St h0 D Z0 Rv Z h (.gs u ck (csz β) :: .gs v cells (csz α) :: .grp bs :: L)) (hH : RH Z cells xs bs i.toNat w) (hk : RCs Z ck ys)
    (hz : xs[i.toNat]? = some z) (hx : opv l x = some (.pointer (some (elemA v i (csz α) j)))) (hy : opv l y = some u) (ht : tsize P t = some 1) (hl : Nat.ble (j + 1) (csz α) = true)
    (hd0 : DCell.drc (β := β) w cs z) (hc : cs.take j ++ [u] ++ cs.drop (j + 1) = cs') (hd1 : DCell.drc (β := β) u cs' z') (hrow : DCell.row (β := β) z' = ys) :
    ∃ h' cells' bs', OpTo P l (.store t x y) h undef h' ∧ RD Z cells' (xs.set i.toNat z') bs' ∧ St h0 D Z0 Rv Z h' (.gs v cells' (csz α) :: .grp bs' :: L) := by
  subst hrow
  obtain ⟨ds1, d, ds2, b1, b2, rfl, h2, rfl, h4, rfl, h6, h7⟩ := hH
  have hd : (ds1 ++ d :: ds2)[i.toNat]? = some d := by rw [← h2]; simp
  rw [List.getElem?_map, hd] at hz
  simp only [Option.map_some, Option.some.injEq] at hz
  subst hz
  obtain ⟨cs0, q1, q2, q3⟩ := hS.gel (α := DV α) (j := 1) rfl h4 hd
  have e : cs = cs0 := (DCell.fn q1.2 hd0).symm
  subst e
  have g1 : Value.oneCell' u = true := hS.gone1 (i := 0) rfl
  have hcl : cs.length = csz α := DCell.dlen q1.2
  obtain ⟨h', c', r1, r2, r3⟩ := o_ste (α := DV α) (P := P) (t := t) (vs := [u]) (u' := ⟨z', u⟩) hS (m := 1) rfl h4 hd q3 hx hy (hS.gcell1 (i := 0) rfl) ht (by simp [g1]) (by rw [hcl]; exact hl) hc ⟨g1, hd1⟩
  obtain ⟨k, hO, hS2⟩ := St.toGrp (β := β) r3 (ys := DCell.row (β := β) z') hk
  have hS3 := (hS2.front 2 rfl).grpSplit
  have hS4 := (((hS3.front 2 rfl).front 2 rfl).front 1 rfl).grpApp
  have hS6 := (hS4.front 1 rfl).grpApp
  refine ⟨h', c', b1 ++ (k ++ b2), r1, ⟨_, ?_, r2, ?_⟩, (hS6.front 1 rfl)⟩
  · rw [List.map_set]
  · rw [← h2, List.set_append_right _ _ (Nat.le_refl _), Nat.sub_self, List.set_cons_zero]
    exact h6.append ⟨k, b2, rfl, hO, h7⟩
/-- The rows of the elements are no longer changed. -/
theorem RD.freeze (hS : St h0 D Z0 Rv Z h (.grp bs :: L)) (hR : RD Z cells xs bs) : ∃ Z', Zle Z Z' ∧ RCs Z' cells xs ∧ St h0 D Z0 Rv Z' h L := by
  obtain ⟨ds, rfl, h2, h3⟩ := hR
  induction ds generalizing Z cells bs with
  | nil =>
    simp only [RCs] at h2; subst h2
    exact ⟨Z, Zle.refl _, rfl, hS.tail⟩
  | cons d ds ih =>
    obtain ⟨cs, rest, rfl, q1, q2⟩ := h2
    obtain ⟨k, r, rfl, o1, o2⟩ := h3
    obtain ⟨ck, hck, hS1⟩ := hS.grpSplit.ofGrp o1
    obtain ⟨Z1, hz1, hr1, hS2⟩ := hS1.freeze hck
    obtain ⟨Z2, hz2, hr2, hS3⟩ := ih hS2 (q2.mono hz1) (o2.mono hz1)
    exact ⟨Z2, hz1.trans hz2, ⟨cs, rest, rfl, DCell.rcd (hr1.mono hz2) q1.2, hr2⟩, hS3⟩
theorem St.shallow (hS : St h0 D Z0 Rv Z h (.gs v cells (csz α) :: .grp bs :: L)) (hR : RD Z cells xs bs) : ∃ Z', Zle Z Z' ∧ RCs Z' cells xs ∧ St h0 D Z0 Rv Z' h (.gs v cells (csz α) :: L) := by
  obtain ⟨Z', h1, h2, h3⟩ := RD.freeze (hS.front 1 rfl) hR
  exact ⟨Z', h1, h2, h3⟩
/-- An append of a deep row. -/
theorem o_appD {t tx : TypeId} {a b : Operand} {by_ : Nat} {v2 : Value} {c2 : List Value} {b2 : List Bk} {ys : List α} (hS : St h0 D Z0 Rv Z h (.gs v cells (csz α) :: .grp bs :: .gs v2 c2 (csz α) :: .grp b2 :: L)) (hR : RD Z cells xs bs) (hR2 : RD Z c2 ys b2)
    (ha : opv l a = some v) (hb : opv l b = some v2) (ht : appTy P t tx = some (csz α, by_)) (hlim : (xs.length + ys.length) * by_ ≤ 140737488355328) (hm : xs.length + ys.length ≤ 4611686018427387904) :
    ∃ v' cells' h', OpTo P l (.call ⟨.builtin .append, #[a, b], #[t, tx]⟩) h v' h' ∧ RD Z cells' (xs ++ ys) (bs ++ b2) ∧ St h0 D Z0 Rv Z h' (.gs v' cells' (csz α) :: .grp (bs ++ b2) :: L) := by
  obtain ⟨ds, rfl, h2, h3⟩ := hR
  obtain ⟨es, rfl, k2, k3⟩ := hR2
  rw [List.length_map, List.length_map] at hlim hm
  obtain ⟨v', c', h', r1, r2, r3⟩ := o_app (α := DV α) (P := P) hS (i := 0) rfl h2 (hS.gnews (α := DV α) (j := 2) rfl k2) ha hb ht hlim hm
  refine ⟨v', c', h', r1, ⟨ds ++ es, by rw [List.map_append], r2, h3.append k3⟩, ?_⟩
  have hS1 := (r3.front 2 rfl).tail
  have hS2 := (hS1.front 2 rfl)
  have hS3 := (hS2.front 2 rfl).grpApp
  exact hS3.front 1 rfl
end
section
variable {P : Program} {R : List COp} {k : Nat} {l : KL} {h : AH} {K : KL → AH → Prop} {g : Option (Option Nat × Bool)} {d : Option Nat} {op : Op}
theorem r_ex4 {α γ : Type} {v : Value} {Q : AH → α → γ → Prop} (ho : R[k]? = some ⟨g, d, op⟩) (hg : gon l g) (hx : ∃ h' c b, OpTo P l op h v h' ∧ Q h' c b) (hk : ∀ h' c b, Q h' c b → wpR P R (k + 1) (updL l d v) h' K) : wpR P R k l h K := by
  obtain ⟨h', c, b, h1, h2⟩ := hx
  exact r_step ho hg h1 (hk h' c b h2)
variable {RF : List COpF} {base : Nat} {Zs Z Z0 : Zn} {lk lk' : List (Nat × Dep)} {ef : List (Nat × Fp)} {h0 : AH} {D : List Nat} {Rv : Nat × Nat} {om : List Nat}
theorem e_mk4 {A B : List Itm} {v : Value} {T : List Value → List Bk → Prop} {F : List Value → List Bk → List Itm} (ho : RF[k]? = some ⟨g, d, op, .make, om⟩) (hg : gon l g) (hS : St h0 D Z0 Rv Z h (A ++ B)) (hx : ∃ h1 c b, OpTo P l op { h with low := h.next } v h1 ∧ T c b ∧ St { h with low := h.next } (idsL A) Z (0, 0) Z h1 (F c b)) (hz : Zle Zs Z) (hm : MkL om (.blks (idsL A)) lk lk')
    (hk : ∀ h' c b, T c b ∧ St h0 D Z0 Rv Z h' (F c b ++ B) → wpRF P RF base Zs lk' ((k, .blks (idsL A)) :: ef) (k + 1) (updL l d v) h' K) : wpRF P RF base Zs lk ef k l h K := by
  obtain ⟨h1, c, b, q1, q2, q3⟩ := hx
  exact e_make (A := A) (A' := F c b) (B := B) ho hg hS q1 q3 hz hm fun h' q => hk h' c b ⟨q2, q⟩
theorem e_mk5 {A B : List Itm} {T : List Value → Prop} {F : Value → List Value → List Itm} (ho : RF[k]? = some ⟨g, d, op, .make, om⟩) (hg : gon l g) (hS : St h0 D Z0 Rv Z h (A ++ B)) (hx : ∃ v c h1, OpTo P l op { h with low := h.next } v h1 ∧ T c ∧ St { h with low := h.next } (idsL A) Z (0, 0) Z h1 (F v c)) (hz : Zle Zs Z) (hm : MkL om (.blks (idsL A)) lk lk')
    (hk : ∀ v c h', T c ∧ St h0 D Z0 Rv Z h' (F v c ++ B) → wpRF P RF base Zs lk' ((k, .blks (idsL A)) :: ef) (k + 1) (updL l d v) h' K) : wpRF P RF base Zs lk ef k l h K := by
  obtain ⟨v, c, h1, q1, q2, q3⟩ := hx
  exact e_make (A := A) (A' := F v c) (B := B) ho hg hS q1 q3 hz hm fun h' q => hk v c h' ⟨q2, q⟩
end
end Go.Proofs.Ytpijjenaadkjdaa.Sy
