/- Which operations may change places: what a drawn region's order leaves as it is. No condition. -/
import Derived.Test.YtpppkmeolknofaaB2
namespace Go.Proofs.Ytpppkmeolknofaa
open Go Go.RowKit
set_option linter.unusedSimpArgs false
set_option linter.unusedVariables false

inductive Cl where
  | pure | load | fal | alloc | ap | call | loud
  deriving DecidableEq

def SO.cl : SO → Cl
  | .mv _ | .pk _ _ _ | .bin _ _ _ | .eb _ _ _ | .en _ _ _ | .ep _ _ _ | .un _ _ | .cv _ _ | .ix _ _ _ | .fd _ _ | .bd _ _ _ | .fi _ _ | .fin _ _ _ | .ex _ _ | .nc _ | .ln _ | .mx _ _ | .mn _ _ | .be | .sl0 _ => .pure
  | .ld _ | .ldn _ _ | .sl _ _ _ _ => .load
  | .al _ | .bk _ _ _ => .fal
  | .ms _ _ _ _ | .bs _ _ _ _ | .bx _ => .alloc
  | .ap _ _ _ _ => .ap
  | .ca _ _ => .call
  | .st _ _ _ | .cp _ _ => .loud

def svT : SV → List Nat
  | .t n => [n]
  | .k _ => []
def SOp.looks (r : SOp) : List Nat := r.op.svs.flatMap svT ++ (match r.grd with | some (d, _) => [d] | none => [])

theorem arK_det {k : IntKind} {n : Int} {K : AV → Prop} (h : arK k n K) : ∃ v, (∀ K', K' v → arK k n K') ∧ K v := by
  cases k <;> simp only [arK] at h ⊢ <;> first | exact ⟨_, fun _ k => k, h⟩ | exact ⟨_, fun _ k => ⟨h.1, k⟩, h.2⟩

theorem abin_det {op : BinOp} {x y : AV} {K : AV → Prop} (h : abin op x y K) : ∃ v, (∀ K', K' v → abin op x y K') ∧ K v := by
  unfold abin at h ⊢
  split at h
  · split at h
    case h_6 => obtain ⟨e, n, h⟩ := h; obtain ⟨v, h1, h2⟩ := arK_det h; exact ⟨v, fun K' k => ⟨e, n, h1 K' k⟩, h2⟩
    case h_7 => obtain ⟨e, n, h⟩ := h; exact ⟨_, fun K' k => ⟨e, n, k⟩, h⟩
    all_goals first
      | (obtain ⟨e, h⟩ := h; obtain ⟨v, h1, h2⟩ := arK_det h; exact ⟨v, fun K' k => ⟨e, h1 K' k⟩, h2⟩)
      | (obtain ⟨e, h⟩ := h; exact ⟨_, fun K' k => ⟨e, k⟩, h⟩)
  · exact h.elim

theorem aun_det {op : UnOp} {x : AV} {K : AV → Prop} (h : aun op x K) : ∃ v, (∀ K', K' v → aun op x K') ∧ K v := by
  unfold aun at h ⊢
  split at h
  · exact arK_det h
  · exact ⟨_, fun _ k => k, h⟩
  · exact ⟨_, fun _ k => k, h⟩
  · exact h.elim

theorem aen_det {neg : Bool} {x y : AV} {K : AV → Prop} (h : aen neg x y K) : ∃ v, (∀ K', K' v → aen neg x y K') ∧ K v := by
  unfold aen at h ⊢
  split at h <;> first | exact ⟨_, fun _ k => k, h⟩ | exact h.elim
theorem aep_det {neg : Bool} {x y : AV} {K : AV → Prop} (h : aep neg x y K) : ∃ v, (∀ K', K' v → aep neg x y K') ∧ K v := by
  unfold aep at h ⊢
  split at h <;> first | exact ⟨_, fun _ k => k, h⟩ | exact h.elim

theorem aop_pure {o : SO} (ho : o.cl = .pure) {a : Nat → AV} {H : AH} {V : AV → AH → Prop} (h : aop o a H V) : ∃ v, (∀ H' V', V' v H' → aop o a H' V') ∧ V v H := by
  cases o <;> first | (simp [SO.cl] at ho; done) | skip
  case mv x => exact ⟨_, fun _ _ k => k, h⟩
  case pk c x y => obtain ⟨t, e, k⟩ := h; exact ⟨_, fun _ _ k => ⟨t, e, k⟩, k⟩
  case bin op x y => obtain ⟨v, h1, h2⟩ := abin_det (show abin op _ _ (fun v => V v H) from h); exact ⟨v, fun H' V' k => h1 (fun v => V' v H') k, h2⟩
  case eb neg x y => obtain ⟨p, q, e1, e2, k⟩ := h; exact ⟨_, fun _ _ k => ⟨p, q, e1, e2, k⟩, k⟩
  case en neg x y => obtain ⟨v, h1, h2⟩ := aen_det (show aen neg _ _ (fun v => V v H) from h); exact ⟨v, fun H' V' k => h1 (fun v => V' v H') k, h2⟩
  case ep neg x y => obtain ⟨v, h1, h2⟩ := aep_det (show aep neg _ _ (fun v => V v H) from h); exact ⟨v, fun H' V' k => h1 (fun v => V' v H') k, h2⟩
  case un op x => obtain ⟨v, h1, h2⟩ := aun_det (show aun op _ (fun v => V v H) from h); exact ⟨v, fun H' V' k => h1 (fun v => V' v H') k, h2⟩
  case cv k x => obtain ⟨k', n, e, h⟩ := h; obtain ⟨v, h1, h2⟩ := arK_det h; exact ⟨v, fun H' V' kk => ⟨k', n, e, h1 (fun v => V' v H') kk⟩, h2⟩
  case ix sz x i => obtain ⟨id, off, len, k, n, e1, e2, e3, e4, kk⟩ := h; exact ⟨_, fun _ _ kk => ⟨id, off, len, k, n, e1, e2, e3, e4, kk⟩, kk⟩
  case fd o x => obtain ⟨id, off, e, k⟩ := h; exact ⟨_, fun _ _ k => ⟨id, off, e, k⟩, k⟩
  case sl0 x =>
    rcases h with ⟨e, k⟩ | ⟨e, k⟩
    · exact ⟨_, fun _ _ k => .inl ⟨e, k⟩, k⟩
    · exact ⟨_, fun _ _ k => .inr ⟨e, k⟩, k⟩
  case be => exact ⟨_, fun _ _ k => k, h⟩
  case bd zs places ps => obtain ⟨cs, e, k⟩ := h; exact ⟨_, fun _ _ k => ⟨cs, e, k⟩, k⟩
  case fi off x => obtain ⟨cs, c, e1, e2, k⟩ := h; exact ⟨_, fun _ _ k => ⟨cs, c, e1, e2, k⟩, k⟩
  case fin off n x => obtain ⟨cs, e1, k⟩ := h; exact ⟨_, fun _ _ k => ⟨cs, e1, k⟩, k⟩
  case ex x i => obtain ⟨vs, c, e1, e2, k⟩ := h; exact ⟨_, fun _ _ k => ⟨vs, c, e1, e2, k⟩, k⟩
  case nc x => obtain ⟨id, off, e, k⟩ := h; exact ⟨_, fun _ _ k => ⟨id, off, e, k⟩, k⟩
  case ln x =>
    rcases h with ⟨id, off, len, e, k⟩ | ⟨e, k⟩
    · exact ⟨_, fun _ _ k => .inl ⟨id, off, len, e, k⟩, k⟩
    · exact ⟨_, fun _ _ k => .inr ⟨e, k⟩, k⟩
  case mx x y => obtain ⟨k, k', p, q, e1, e2, kk⟩ := h; exact ⟨_, fun _ _ kk => ⟨k, k', p, q, e1, e2, kk⟩, kk⟩
  case mn x y => obtain ⟨k, k', p, q, e1, e2, kk⟩ := h; exact ⟨_, fun _ _ kk => ⟨k, k', p, q, e1, e2, kk⟩, kk⟩

theorem rdc_le {H H' : AH} (hl : HLe H H') {id off : Nat} {c : AV} (h : rdc H id off = some c) : rdc H' id off = some c := by
  unfold rdc at h ⊢
  cases ho : H id with
  | none => rw [ho] at h; cases h
  | some ob => rw [ho] at h; rw [hl _ _ ho]; exact h

theorem aop_load {o : SO} (ho : o.cl = .load) {a : Nat → AV} {H : AH} {V : AV → AH → Prop} (h : aop o a H V) : ∃ v, (∀ H' V', HLe H H' → V' v H' → aop o a H' V') ∧ V v H := by
  cases o <;> first | (simp [SO.cl] at ho; done) | skip
  case ld x => obtain ⟨id, off, c, e1, e2, k⟩ := h; exact ⟨_, fun _ _ hl k => ⟨id, off, c, e1, rdc_le hl e2, k⟩, k⟩
  case ldn n x => obtain ⟨id, off, ob, e1, e2, e3, k⟩ := h; exact ⟨_, fun _ _ hl k => ⟨id, off, ob, e1, hl _ _ e2, e3, k⟩, k⟩
  case sl sz x lo hi =>
    rcases h with ⟨id, off, len, l, r, ob, e1, e2, e3, e4, e5, e6, e7, e8, k⟩ | ⟨e1, e2, e3, k⟩
    · exact ⟨_, fun _ _ hl k => .inl ⟨id, off, len, l, r, ob, e1, hl _ _ e2, e3, e4, e5, e6, e7, e8, k⟩, k⟩
    · exact ⟨_, fun _ _ hl k => .inr ⟨e1, e2, e3, k⟩, k⟩

theorem aop_alloc {o : SO} (ho : o.cl = .fal ∨ o.cl = .alloc) {a : Nat → AV} {H : AH} {V : AV → AH → Prop} (h : aop o a H V) :
    ∃ (f : Nat → AV) (ob : AObj), (∀ id, H id = none → V (f id) (upd H id ob)) ∧ ∀ H' V', (∀ id, H' id = none → V' (f id) (upd H' id ob)) → aop o a H' V' := by
  cases o <;> first | (simp [SO.cl] at ho; done) | skip
  case al zs => exact ⟨fun id => .p id 0, _, h, fun _ _ k => k⟩
  case bk sz cs len => exact ⟨fun id => .s id 0 len, _, h, fun _ _ k => k⟩
  case ms bytes z x y => obtain ⟨k, k', l, c, e1, e2, e3, e4, e5, e6, kk⟩ := h; exact ⟨fun id => .s id 0 l.toNat, _, kk, fun _ _ kk => ⟨k, k', l, c, e1, e2, e3, e4, e5, e6, kk⟩⟩
  case bs sz zs len ps => obtain ⟨cs, e, kk⟩ := h; exact ⟨fun id => .s id 0 len, _, kk, fun _ _ kk => ⟨cs, e, kk⟩⟩
  case bx x => obtain ⟨cs, e, kk⟩ := h; exact ⟨fun id => .p id 0, _, kk, fun _ _ kk => ⟨cs, e, kk⟩⟩

theorem aop_alloc_iff {o : SO} (ho : o.cl = .fal ∨ o.cl = .alloc) {a : Nat → AV} {H : AH} {V : AV → AH → Prop} (h : aop o a H V) :
    ∃ (f : Nat → AV) (ob : AObj), ∀ H' V', aop o a H' V' ↔ (∀ id, H' id = none → V' (f id) (upd H' id ob)) := by
  cases o <;> first | (simp [SO.cl] at ho; done) | skip
  case al zs => exact ⟨fun id => .p id 0, _, fun _ _ => Iff.rfl⟩
  case bk sz cs len => exact ⟨fun id => .s id 0 len, _, fun _ _ => Iff.rfl⟩
  case ms bytes z x y =>
    obtain ⟨k, k', l, c, e1, e2, e3, e4, e5, e6, kk⟩ := h
    refine ⟨fun id => .s id 0 l.toNat, ⟨List.replicate l.toNat z, true, 1⟩, fun _ _ => ⟨?_, fun kk => ⟨k, k', l, c, e1, e2, e3, e4, e5, e6, kk⟩⟩⟩
    rintro ⟨k2, k2', l2, c2, d1, d2, d3, d4, d5, d6, kk2⟩
    rw [e1] at d1
    cases d1
    exact kk2
  case bs sz zs len ps =>
    obtain ⟨cs, e, kk⟩ := h
    refine ⟨fun id => .s id 0 len, ⟨cs, true, sz⟩, fun _ _ => ⟨?_, fun kk => ⟨cs, e, kk⟩⟩⟩
    rintro ⟨cs2, e2, kk2⟩
    rw [e] at e2
    cases e2
    exact kk2
  case bx x =>
    obtain ⟨cs, e, kk⟩ := h
    refine ⟨fun id => .p id 0, ⟨cs, true, 0⟩, fun _ _ => ⟨?_, fun kk => ⟨cs, e, kk⟩⟩⟩
    rintro ⟨cs2, e2, kk2⟩
    rw [e] at e2
    cases e2
    exact kk2

/-- an allocation that asks for nothing -/
theorem aop_fal {o : SO} (ho : o.cl = .fal) (a : Nat → AV) : ∃ (f : Nat → AV) (ob : AObj), ∀ H V, aop o a H V ↔ (∀ id, H id = none → V (f id) (upd H id ob)) := by
  cases o <;> first | (simp [SO.cl] at ho; done) | skip
  case al zs => exact ⟨fun id => .p id 0, _, fun _ _ => Iff.rfl⟩
  case bk sz cs len => exact ⟨fun id => .s id 0 len, _, fun _ _ => Iff.rfl⟩

theorem astepV_aop {P : Program} {pv : Bool} {o : SO} (h1 : o.cl ≠ .ap) (h2 : o.cl ≠ .call) (a : Nat → AV) (H : AH) (V : AV → AH → Prop) : astepV P pv o a H V ↔ aop o a H V := by
  cases o <;> first | exact Iff.rfl | exact absurd rfl h1 | exact absurd rfl h2

theorem abin_mono {op : BinOp} {x y : AV} {K K' : AV → Prop} (hk : ∀ v, K v → K' v) (h : abin op x y K) : abin op x y K' := by
  obtain ⟨v, h1, h2⟩ := abin_det h
  exact h1 _ (hk _ h2)

theorem astepV_mono {P : Program} {pv : Bool} {o : SO} {a : Nat → AV} {H : AH} {V V' : AV → AH → Prop} (hv : ∀ v H', V v H' → V' v H') (h : astepV P pv o a H V) : astepV P pv o a H V' := by
  by_cases hp : o.cl = .pure
  · have h' : aop o a H V := by cases o <;> first | exact h | (simp [SO.cl] at hp; done)
    obtain ⟨v, h1, h2⟩ := aop_pure hp h'
    have := h1 H V' (hv _ _ h2)
    cases o <;> first | exact this | (simp [SO.cl] at hp; done)
  · by_cases hq : o.cl = .load
    · have h' : aop o a H V := by cases o <;> first | exact h | (simp [SO.cl] at hq; done)
      obtain ⟨v, h1, h2⟩ := aop_load hq h'
      have := h1 H V' (.refl H) (hv _ _ h2)
      cases o <;> first | exact this | (simp [SO.cl] at hq; done)
    · by_cases hr : o.cl = .fal ∨ o.cl = .alloc
      · have h' : aop o a H V := by cases o <;> first | exact h | (simp [SO.cl] at hr; done)
        obtain ⟨f, ob, h1, h2⟩ := aop_alloc hr h'
        have := h2 H V' (fun id hid => hv _ _ (h1 id hid))
        cases o <;> first | exact this | (simp [SO.cl] at hr; done)
      · cases o <;> first | (simp [SO.cl] at hp; done) | (simp [SO.cl] at hq; done) | (simp [SO.cl] at hr; done) | skip
        case st n x v => obtain ⟨id, off, ob, cs, e1, e2, e3, e4, e5, e6, k⟩ := h; exact ⟨id, off, ob, cs, e1, e2, e3, e4, e5, e6, hv _ _ k⟩
        case cp x y => obtain ⟨id, off, len, ob, k, news, e1, e2, e3, e4, e5, e6, kk⟩ := h; exact ⟨id, off, len, ob, k, news, e1, e2, e3, e4, e5, e6, hv _ _ kk⟩
        case ap sz bytes x y =>
          obtain ⟨k, news, e1, e2⟩ := h
          refine ⟨k, news, e1, ?_⟩
          rcases e2 with ⟨a1, a2, a3⟩ | ⟨id, off, len, ob, a1, a2, a3, a4, a5, a6, a7, a8⟩
          · exact .inl ⟨a1, fun q => ⟨(a2 q).1, hv _ _ (a2 q).2⟩, fun q => ⟨(a3 q).1, (a3 q).2.1, fun id hid => ⟨((a3 q).2.2 id hid).1, hv _ _ ((a3 q).2.2 id hid).2⟩⟩⟩
          · exact .inr ⟨id, off, len, ob, a1, a2, a3, a4, a5, a6, a7, fun id' hid' => ⟨(a8 id' hid').1, hv _ _ (a8 id' hid').2⟩⟩
        case ca f args => exact ACalls.mono h fun x H' hh => ⟨hh.1, hv _ _ hh.2⟩

theorem avG_mono {P : Program} {pv : Bool} {r : SOp} {a : Nat → AV} {H : AH} {V V' : AV → AH → Prop} (hv : ∀ v H', V v H' → V' v H') (h : avG P pv r a H V) : avG P pv r a H V' := by
  unfold avG at h ⊢
  split at h
  · exact astepV_mono hv h
  · obtain ⟨t, e, h1, h2⟩ := h
    exact ⟨t, e, fun q => astepV_mono hv (h1 q), fun q => hv _ _ (h2 q)⟩


theorem evS_congr {a b : Nat → AV} {x : SV} (h : ∀ t ∈ svT x, a t = b t) : evS a x = evS b x := by
  cases x with
  | t n => exact h n (by simp [svT])
  | k v => rfl

theorem aop_congr {o : SO} {a b : Nat → AV} (h : ∀ x ∈ o.svs, evS a x = evS b x) (H : AH) (V : AV → AH → Prop) : aop o a H V ↔ aop o b H V := by
  have e : ∀ x ∈ o.svs, evS a x = evS b x := h
  cases o <;> simp only [SO.svs, List.mem_cons, List.not_mem_nil, or_false, forall_eq_or_imp, forall_eq, List.mem_append, Option.mem_toList] at e <;> simp only [aop]
  case sl sz x lo hi =>
    have e1 := h x (by simp [SO.svs])
    have e2 : lo.map (evS a) = lo.map (evS b) := by
      cases lo with
      | none => rfl
      | some y => simp only [Option.map_some]; rw [h y (by simp [SO.svs])]
    have e3 : hi.map (evS a) = hi.map (evS b) := by
      cases hi with
      | none => rfl
      | some y => simp only [Option.map_some]; rw [h y (by simp [SO.svs])]
    rw [e1, e2, e3]
  case bs sz zs len ps =>
    have : (ps.map fun p => (p.1, evS a p.2)) = (ps.map fun p => (p.1, evS b p.2)) := List.map_congr_left fun p hp => by rw [h p.2 (by simp only [SO.svs, List.mem_map]; exact ⟨p, hp, rfl⟩)]
    rw [this]
  case bd zs places ps =>
    have : (ps.map fun p => (p.1, evS a p.2)) = (ps.map fun p => (p.1, evS b p.2)) := List.map_congr_left fun p hp => by rw [h p.2 (by simp only [SO.svs, List.mem_map]; exact ⟨p, hp, rfl⟩)]
    rw [this]
  all_goals first
    | rfl
    | (rw [e])
    | (obtain ⟨e1, e2⟩ := e; rw [e1, e2])
    | (obtain ⟨e1, e2, e3⟩ := e; rw [e1, e2, e3])

theorem astepV_congr {P : Program} {pv : Bool} {o : SO} {a b : Nat → AV} (h : ∀ x ∈ o.svs, evS a x = evS b x) (H : AH) (V : AV → AH → Prop) : astepV P pv o a H V ↔ astepV P pv o b H V := by
  cases o
  case ca f args =>
    have : args.map (evS a) = args.map (evS b) := List.map_congr_left h
    simp only [astepV]
    rw [this]
  case ap sz bytes x y =>
    show aop (.ap sz bytes x y) a H (fun v H' => (pv = true → HLe H H') ∧ V v H') ↔ aop (.ap sz bytes x y) b H (fun v H' => (pv = true → HLe H H') ∧ V v H')
    exact aop_congr h H _
  all_goals exact aop_congr h H _

theorem avG_congr {P : Program} {pv : Bool} {r : SOp} {a b : Nat → AV} (h : ∀ t ∈ r.looks, a t = b t) {H : AH} {V : AV → AH → Prop} (hh : avG P pv r a H V) : avG P pv r b H V := by
  have hs : ∀ x ∈ r.op.svs, evS a x = evS b x := fun x hx => evS_congr fun t ht => h t (by
    simp only [SOp.looks, List.mem_append, List.mem_flatMap]
    exact .inl ⟨x, hx, ht⟩)
  unfold avG at hh ⊢
  cases hg : r.grd with
  | none => rw [hg] at hh; exact (astepV_congr hs _ _).mp hh
  | some dw =>
    rw [hg] at hh
    obtain ⟨t, e, h1, h2⟩ := hh
    refine ⟨t, ?_, fun q => (astepV_congr hs _ _).mp (h1 q), h2⟩
    rw [← h dw.1 (by simp [SOp.looks, hg])]
    exact e

theorem HLe.alloc {H : AH} {id : Nat} (h : H id = none) (ob : AObj) : HLe H (upd H id ob) := HLe.upd_new h ob

/-- in a drawn region whatever is not loud leaves what there was -/
theorem astepV_keeps {P : Program} {o : SO} (ho : o.cl ≠ .loud) {a : Nat → AV} {H : AH} {V : AV → AH → Prop} (h : astepV P true o a H V) : astepV P true o a H (fun v H' => HLe H H' ∧ V v H') := by
  by_cases hp : o.cl = .pure
  · have h' : aop o a H V := by cases o <;> first | exact h | (simp [SO.cl] at hp; done)
    obtain ⟨v, h1, h2⟩ := aop_pure hp h'
    have := h1 H (fun v H' => HLe H H' ∧ V v H') ⟨.refl H, h2⟩
    cases o <;> first | exact this | (simp [SO.cl] at hp; done)
  · by_cases hq : o.cl = .load
    · have h' : aop o a H V := by cases o <;> first | exact h | (simp [SO.cl] at hq; done)
      obtain ⟨v, h1, h2⟩ := aop_load hq h'
      have := h1 H (fun v H' => HLe H H' ∧ V v H') (.refl H) ⟨.refl H, h2⟩
      cases o <;> first | exact this | (simp [SO.cl] at hq; done)
    · by_cases hr : o.cl = .fal ∨ o.cl = .alloc
      · have h' : aop o a H V := by cases o <;> first | exact h | (simp [SO.cl] at hr; done)
        obtain ⟨f, ob, h1, h2⟩ := aop_alloc hr h'
        have := h2 H (fun v H' => HLe H H' ∧ V v H') (fun id hid => ⟨.upd_new hid ob, h1 id hid⟩)
        cases o <;> first | exact this | (simp [SO.cl] at hr; done)
      · cases o <;> first | (simp [SO.cl] at hp; done) | (simp [SO.cl] at hq; done) | (simp [SO.cl] at hr; done) | (simp [SO.cl] at ho; done) | skip
        case ap sz bytes x y =>
          obtain ⟨k, news, e1, e2⟩ := h
          refine ⟨k, news, e1, ?_⟩
          rcases e2 with ⟨a1, a2, a3⟩ | ⟨id, off, len, ob, a1, a2, a3, a4, a5, a6, a7, a8⟩
          · exact .inl ⟨a1, fun q => ⟨(a2 q).1, (a2 q).1 rfl, (a2 q).2⟩, fun q => ⟨(a3 q).1, (a3 q).2.1, fun id hid => ⟨((a3 q).2.2 id hid).1, ((a3 q).2.2 id hid).1 rfl, ((a3 q).2.2 id hid).2⟩⟩⟩
          · exact .inr ⟨id, off, len, ob, a1, a2, a3, a4, a5, a6, a7, fun id' hid' => ⟨(a8 id' hid').1, (a8 id' hid').1 rfl, (a8 id' hid').2⟩⟩
        case ca f args => exact ACalls.mono h fun x H' hh => ⟨hh.1, hh.1 rfl, hh.2⟩

theorem avG_keeps {P : Program} {r : SOp} (ho : r.op.cl ≠ .loud) {a : Nat → AV} {H : AH} {V : AV → AH → Prop} (h : avG P true r a H V) : avG P true r a H (fun v H' => HLe H H' ∧ V v H') := by
  unfold avG at h ⊢
  split at h
  · exact astepV_keeps ho h
  · obtain ⟨t, e, h1, h2⟩ := h
    exact ⟨t, e, fun q => astepV_keeps ho (h1 q), fun q => ⟨.refl H, h2 q⟩⟩

/-- one that yields the same value whatever comes before it -/
theorem avG_det {P : Program} {pv : Bool} {r : SOp} (ho : r.op.cl = .pure ∨ r.op.cl = .load) {a : Nat → AV} {H : AH} {V : AV → AH → Prop} (h : avG P pv r a H V) :
    ∃ v, (∀ H' V', (r.op.cl = .load → HLe H H') → V' v H' → avG P pv r a H' V') ∧ V v H := by
  have op : ∀ W : AV → AH → Prop, astepV P pv r.op a H W → ∃ v, (∀ H' V', (r.op.cl = .load → HLe H H') → V' v H' → astepV P pv r.op a H' V') ∧ W v H := by
    intro W h
    have n1 : r.op.cl ≠ .ap := by rcases ho with e | e <;> rw [e] <;> decide
    have n2 : r.op.cl ≠ .call := by rcases ho with e | e <;> rw [e] <;> decide
    have h' := (astepV_aop n1 n2 a H W).mp h
    rcases ho with hp | hq
    · obtain ⟨v, h1, h2⟩ := aop_pure hp h'
      exact ⟨v, fun H' V' _ k => (astepV_aop n1 n2 a H' V').mpr (h1 H' V' k), h2⟩
    · obtain ⟨v, h1, h2⟩ := aop_load hq h'
      exact ⟨v, fun H' V' hl k => (astepV_aop n1 n2 a H' V').mpr (h1 H' V' (hl hq) k), h2⟩
  unfold avG at h ⊢
  split at h
  · exact op V h
  · obtain ⟨t, e, h1, h2⟩ := h
    rename_i d want hg
    by_cases q : t = want
    · obtain ⟨v, k1, k2⟩ := op V (h1 q)
      exact ⟨v, fun H' V' hl k => ⟨t, e, fun _ => k1 H' V' hl k, fun nq => absurd q nq⟩, k2⟩
    · exact ⟨.u, fun H' V' _ k => ⟨t, e, fun hq => absurd hq q, fun _ => k⟩, h2 q⟩

end Go.Proofs.Ytpppkmeolknofaa
