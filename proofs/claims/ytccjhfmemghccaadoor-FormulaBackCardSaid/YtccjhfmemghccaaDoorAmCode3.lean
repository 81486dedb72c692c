/- The abstract machine and its reader: lemmas. -/
import Derived.Test.YtccjhfmemghccaaDoorAmDraw3
set_option linter.unusedSimpArgs false
set_option linter.unusedVariables false
set_option linter.unusedSectionVars false
namespace Am
open Go
variable {P : Program} {G : Glob} {w w' : World} {C C' : Com} {ρ ρ' : Rho} {H H' : Heap}
def regE (P : Program) (G : Glob) (k : Nat) (K : Sta → Prop) : List SO → Sta → Prop
 | [], s => ∃ s', Ent k s s' ∧ K s'
 | o :: rest, s => ∃ s', Ent k s s' ∧ dstOK s'.n o.dst ∧
  match wantedS s'.tm o.g with
  | some true => opK P G s'.nx (evA G s'.tm) s'.H o.op fun r => regE P G k K rest (s'.app o.dst r)
  | some false => regE P G k K rest (s'.skip o.dst)
  | none => False
theorem regE_ent {k : Nat} {K : Sta → Prop} {l : List SO} {s s' : Sta} (he : Ent k s s') (h : regE P G k K l s') : regE P G k K l s := by
 cases l with
 | nil => obtain ⟨s1, h1, h2⟩ := h; exact ⟨s1, he.trans h1, h2⟩
 | cons o l => obtain ⟨s1, h1, h2⟩ := h; exact ⟨s1, he.trans h1, h2⟩
theorem regE_sound {B : Beg} {ops : Array Oper} {K : Sta → Prop} {Q : Exit → Act → World → Prop} (hQ : ∀ s a w, K s → InvE G B s a w → Q .normal a w) :
 ∀ (l : List Oper) (s : Sta) (a : Act) (w : World), InvE G B s a w → regE P G B.Hin.length K (l.map (slim1 ops)) s → wpList P ops Q l a w := by
 intro l
 induction l with
 | nil =>
  intro s a w hi h
  obtain ⟨s', he, hk⟩ := h
  exact hQ s' a w hk (he G B a w rfl hi)
 | cons o rest ih =>
  intro s a w hi h
  obtain ⟨s', he, hd, h⟩ := h
  have hi' := he G B a w rfl hi
  obtain ⟨C, ρ, hi'⟩ := hi'
  unfold wpList
  refine step_sound (K := regE P G B.Hin.length K (rest.map (slim1 ops))) hi' ⟨hd, ?_⟩ fun s1 a' w' hk hi1 => ih s1 a' w' hi1 hk
  rw [wanted_slim]
  exact h
def awp (P : Program) (G : Glob) (k : Nat) : Code → (Exit → Sta → Prop) → Sta → Prop
 | .skip, Q, s => Q .normal s
 | .label _, Q, s => Q .normal s
 | .region _ ops false, Q, s => regE P G k (Q .normal) (slimL ops) s
 | .region _ ops true, Q, s => P.follows .mixedOrders = true ∧ regD P G (fun s1 log => ∃ m, okD ops s.nx log m = true ∧ Q .normal { s1 with nx := m }) (slimL ops) s.nx s []
 | .seq a b, Q, s => awp P G k a (fun e s => match e with | .normal => ∃ s', Ent k s s' ∧ awp P G k b Q s' | e => Q e s) s
 | .cond c a b, Q, s => match evA G s.tm c with
  | .d (.bool true) => awp P G k a Q s
  | .d (.bool false) => awp P G k b Q s
  | _ => False
 | .block id b, Q, s => awp P G k b (fun e s => match e with | .exit i => if i = id then Q .normal s else Q (.exit i) s | e => Q e s) s
 | .loop b, Q, s => ∃ (I : Sta → Prop) (μ : Sta → Nat), (∃ s', Ent k s s' ∧ I s') ∧
  ∀ s, I s → awp P G k b (fun e s1 => match e with | .normal => ∃ s', Ent k s1 s' ∧ I s' ∧ μ s' < μ s | e => Q e s1) s
 | .exit id, Q, s => Q (.exit id) s
 | .ret, Q, s => Q .ret s
 | .scope b, Q, s => awp P G k b (fun e s => match e with | .goto _ => False | e => Q e s) s
 | _, _, _ => False
def post (G : Glob) (B : Beg) (Q : Exit → Sta → Prop) : Exit → Act → World → Prop := fun e a w => ∃ s, Q e s ∧ InvE G B s a w
theorem awp_sound {B : Beg} : ∀ (c : Code) (Q : Exit → Sta → Prop) (s : Sta) (a : Act) (w : World), InvE G B s a w → awp P G B.Hin.length c Q s → c.wp P (post G B Q) a w := by
 intro c
 induction c with
 | skip => intro Q s a w hi h; exact wp_skip ⟨s, h, hi⟩
 | label l => intro Q s a w hi h; exact wp_label ⟨s, h, hi⟩
 | region id ops draw =>
  intro Q s a w hi h
  cases draw with
  | false =>
   refine wp_region_list ?_
   exact regE_sound (fun s a w hk hi => ⟨s, hk, hi⟩) _ _ _ _ hi h
  | true => exact awp_drawn h.1 hi h.2 fun s a w hk hi => ⟨s, hk, hi⟩
 | seq x y ihx ihy =>
  intro Q s a w hi h
  refine wp_seq (Code.wp_mono ?_ (ihx _ s a w hi h))
  rintro e a w ⟨s, hq, hi⟩
  cases e with
  | normal =>
   obtain ⟨s', he, hq⟩ := hq
   exact ihy Q s' a w (he G B a w rfl hi) hq
  | _ => exact ⟨s, hq, hi⟩
 | cond c x y ihx ihy =>
  intro Q s a w hi h
  obtain ⟨C, ρ, hi'⟩ := hi
  have hc := hi'.rel.ev hi'.glob c
  simp only [awp] at h
  split at h
  · rename_i he
    rw [he] at hc
    exact wp_cond_true (repA_bool hc) (ihx Q s a w ⟨C, ρ, hi'⟩ h)
  · rename_i he
    rw [he] at hc
    exact wp_cond_false (repA_bool hc) (ihy Q s a w ⟨C, ρ, hi'⟩ h)
  · exact h.elim
 | block id b ih =>
  intro Q s a w hi h
  refine wp_block (Code.wp_mono ?_ (ih _ s a w hi h))
  rintro e a w ⟨s, hq, hi⟩
  cases e with
  | exit i =>
   simp only [Exit.inBlock]
   simp only at hq
   split at hq
   · rename_i h; rw [if_pos h]; exact ⟨s, hq, hi⟩
   · rename_i h; rw [if_neg h]; exact ⟨s, hq, hi⟩
  | _ => exact ⟨s, hq, hi⟩
 | loop b ih =>
  intro Q s a w hi h
  obtain ⟨I, μ, ⟨s0, he0, hI0⟩, hround⟩ := h
  have key : ∀ (n : Nat) (a : Act) (w : World) (s : Sta), I s → InvE G B s a w → μ s = n → ∀ (bb : Frame) (kk : List Item) (cs : List Frame),
   ∃ e a' w', post G B Q e a' w' ∧ Arrives P (lone (bb.at a (.code b :: .inLoop b :: kk)) cs w) bb kk cs e a' w' := by
   intro n
   induction n using Nat.strongRecOn with
   | _ n ihn =>
    intro a w s hI hi hn bb kk cs
    obtain ⟨e, a1, w1, hq, harr⟩ := ih _ s a w hi (hround s hI) bb (.inLoop b :: kk) cs
    obtain ⟨s1, hq, hi1⟩ := hq
    cases e with
    | normal =>
     obtain ⟨s2, he2, hI2, hlt⟩ := hq
     have hi2 := he2 G B a1 w1 rfl hi1
     obtain ⟨e2, a2, w2, hq2, harr2⟩ := ihn (μ s2) (by omega) a1 w1 s2 hI2 hi2 rfl bb kk cs
     exact ⟨e2, a2, w2, hq2, .of_steps (Steps.trans harr (.one step_inLoop)) harr2⟩
    | exit id => exact ⟨_, a1, w1, ⟨s1, hq, hi1⟩, .pass (x := .inLoop b) rfl (fun _ _ => .inl (by simp)) harr⟩
    | goto l => exact ⟨_, a1, w1, ⟨s1, hq, hi1⟩, .pass (x := .inLoop b) rfl (fun _ _ => .inl (by simp)) harr⟩
    | ret => exact ⟨_, a1, w1, ⟨s1, hq, hi1⟩, .pass (x := .inLoop b) rfl (fun _ _ => .inl (by simp)) harr⟩
    | panic ch => exact ⟨_, a1, w1, ⟨s1, hq, hi1⟩, .pass (x := .inLoop b) rfl (fun _ _ => .inl (by simp)) harr⟩
    | outgrown => exact ⟨_, a1, w1, ⟨s1, hq, hi1⟩, .pass (x := .inLoop b) rfl (fun _ _ => .inl (by simp)) harr⟩
  intro bb kk cs
  obtain ⟨e, a', w', hq, harr⟩ := key _ a w s0 hI0 (he0 G B a w rfl hi) rfl bb kk cs
  exact ⟨e, a', w', hq, .of_steps (.one step_loop) harr⟩
 | exit id => intro Q s a w hi h; exact wp_exit ⟨s, h, hi⟩
 | ret => intro Q s a w hi h; exact wp_ret ⟨s, h, hi⟩
 | scope b ih =>
  intro Q s a w hi h
  refine wp_scope_straight (Code.wp_mono ?_ (ih _ s a w hi h))
  rintro e a w ⟨s, hq, hi⟩
  cases e with
  | goto l => exact hq.elim
  | _ => exact ⟨s, hq, hi⟩
 | _ => intro Q s a w hi h; exact h.elim
end Am
