/- The abstract machine and its reader: lemmas. -/
import Derived.Test.YtojkhlijbpmgpaaGreatAmSe3
set_option linter.unusedSimpArgs false
set_option linter.unusedVariables false
set_option linter.unusedSectionVars false
namespace Am
open Go
variable {P : Program} {G : Glob} {k : Nat} {w w' : World} {C : Com} {ρ : Rho} {H H' : Heap}
inductive Wk : AV → AV → Prop
 | junk (a : AV) : Wk a .junk
 | refl (a : AV) : Wk a a
 | agg (l l0 : List AV) (hl : l.length = l0.length) (h : ∀ i (h : i < l.length) (h' : i < l0.length),Wk l[i] l0[i]) : Wk (.agg l) (.agg l0)
 | tup (l l0 : List AV) (hl : l.length = l0.length) (h : ∀ i (h : i < l.length) (h' : i < l0.length),Wk l[i] l0[i]) : Wk (.tup l) (.tup l0)
 | clo (f : Fn) (a a0 b b0 : List AV) (hl : a.length = a0.length) (h : ∀ i (h : i < a.length) (h' : i < a0.length),Wk a[i] a0[i])
  (hl' : b.length = b0.length) (h' : ∀ i (h : i < b.length) (h' : i < b0.length),Wk b[i] b0[i]) : Wk (.clo f a b) (.clo f a0 b0)
def Wh (H : Heap) (a a' : AV) : Prop := ∀ (w : World) (C : Com) (ρ : Rho) (v : Value),RelH w C ρ H → RepA w C ρ H a v → RepA w C ρ H a' v
theorem Wh.refl (a : AV) : Wh H a a := fun _ _ _ _ _ h => h
theorem Wh.trans {a b c : AV} (h : Wh H a b) (h' : Wh H b c) : Wh H a c := fun w C ρ v hR hr => h' w C ρ v hR (h w C ρ v hR hr)
theorem Wh.junk (a : AV) : Wh H a .junk := fun _ _ _ v _ _ => .junk v
theorem Wh.agg {l l0 : List AV} (hl : l.length = l0.length) (h : ∀ i (h : i < l.length) (h' : i < l0.length),Wh H l[i] l0[i]) : Wh H (.agg l) (.agg l0) := by
 intro w C ρ v hR hr
 cases hr with
 | agg _ vs h1 h2 h3 => exact .agg _ vs (by omega) h2 fun i hi hi' => h i (by omega) hi w C ρ _ hR (h3 i (by omega) hi')
theorem Wh.tup {l l0 : List AV} (hl : l.length = l0.length) (h : ∀ i (h : i < l.length) (h' : i < l0.length),Wh H l[i] l0[i]) : Wh H (.tup l) (.tup l0) := by
 intro w C ρ v hR hr
 cases hr with
 | tup _ vs h1 h3 => exact .tup _ vs (by omega) fun i hi hi' => h i (by omega) hi w C ρ _ hR (h3 i (by omega) hi')
theorem Wh.clo {f : Fn} {a b a0 b0 : List AV} (hl : a.length = a0.length) (h : ∀ i (h : i < a.length) (h' : i < a0.length),Wh H a[i] a0[i])
 (hl' : b.length = b0.length) (h' : ∀ i (h : i < b.length) (h' : i < b0.length),Wh H b[i] b0[i]) : Wh H (.clo f a b) (.clo f a0 b0) := by
 intro w C ρ v hR hr
 cases hr with
 | clo _ _ _ fv cv h1 h2 h3 h4 => exact .clo _ _ _ fv cv (by omega) (by omega) (fun i hi hi' => h i (by omega) hi w C ρ _ hR (h3 i (by omega) hi')) fun i hi hi' => h' i (by omega) hi w C ρ _ hR (h4 i (by omega) hi')
theorem Wk.wh {a a' : AV} (h : Wk a a') : Wh H a a' := by
 induction h with
 | junk a => exact .junk a
 | refl a => exact .refl a
 | agg l l0 hl _ ih => exact .agg hl ih
 | tup l l0 hl _ ih => exact .tup hl ih
 | clo f a a0 b b0 hl _ hl' _ ih ih' => exact .clo hl ih hl' ih'
theorem Wh.fn (f : FuncId) : Wh H (.clo (.func f) [] []) (.d (.raw (.func (.func f) #[] #[]))) := by
 intro w C ρ v hR hr
 cases hr with
 | clo _ _ _ fv cv h1 h2 h3 h4 =>
  have e1 : fv = [] := List.eq_nil_of_length_eq_zero h1.symm
  have e2 : cv = [] := List.eq_nil_of_length_eq_zero h2.symm
  subst e1; subst e2
  exact .d _ _ (.raw _)
theorem Wh.nils : Wh H .nils (.d (.sl [])) := by
 intro w C ρ v hR hr
 cases hr
 exact .d _ _ .nil
theorem wk_d {a : AV} {x : D} (h : Wk a (.d x)) : a = .d x ∨ ∃ f,a = .clo (.func f) [] [] ∧ x = .raw (.func (.func f) #[] #[]) := by
 cases h with
 | refl => exact .inl rfl
theorem wk_int {a : AV} {kd : IntKind} {n : Int} (h : Wk a (.d (.int kd n))) : a = .d (.int kd n) := by
 rcases wk_d h with h | ⟨f,_,h⟩
 · exact h
 · simp at h
theorem wk_bool {a : AV} {b : Bool} (h : Wk a (.d (.bool b))) : a = .d (.bool b) := by
 rcases wk_d h with h | ⟨f,_,h⟩
 · exact h
 · simp at h
theorem wk_str {a : AV} {l : List UInt8} (h : Wk a (.d (.str l))) : a = .d (.str l) := by
 rcases wk_d h with h | ⟨f,_,h⟩
 · exact h
 · simp at h
theorem wk_sl {a : AV} {l : List (List D)} (h : Wk a (.d (.sl l))) : a = .d (.sl l) := by
 rcases wk_d h with h | ⟨f,_,h⟩
 · exact h
 · simp at h
theorem wk_own {a : AV} {b n o l : Nat} (h : Wk a (.own b n o l)) : a = .own b n o l := by cases h; rfl
theorem wk_ptr {a : AV} {b n i j : Nat} (h : Wk a (.ptr b n i j)) : a = .ptr b n i j := by cases h; rfl
theorem wk_eptr {a : AV} {l : List D} (h : Wk a (.eptr l)) : a = .eptr l := by cases h; rfl
theorem wk_nils {a : AV} (h : Wk a .nils) : a = .nils := by cases h; rfl
def WkL (l l0 : List AV) : Prop := l.length = l0.length ∧ ∀ i (h : i < l.length) (h' : i < l0.length),Wk l[i] l0[i]
theorem WkL.refl (l : List AV) : WkL l l := ⟨rfl,fun _ _ _ => .refl _⟩
theorem wk_agg {a : AV} {l0 : List AV} (h : Wk a (.agg l0)) : ∃ l,a = .agg l ∧ WkL l l0 := by
 cases h with
 | refl => exact ⟨_,rfl,.refl _⟩
 | agg l _ hl h => exact ⟨l,rfl,hl,h⟩
theorem wk_tup {a : AV} {l0 : List AV} (h : Wk a (.tup l0)) : ∃ l,a = .tup l ∧ WkL l l0 := by
 cases h with
 | refl => exact ⟨_,rfl,.refl _⟩
 | tup l _ hl h => exact ⟨l,rfl,hl,h⟩
theorem wk_clo {a : AV} {f : Fn} {l l' : List AV} (h : Wk a (.clo f l l')) : ∃ x y,a = .clo f x y ∧ WkL x l ∧ WkL y l' := by
 cases h with
 | refl => exact ⟨_,_,rfl,.refl _,.refl _⟩
 | clo _ a _ b _ h1 h2 h3 h4 => exact ⟨a,b,rfl,⟨h1,h2⟩,⟨h3,h4⟩⟩
theorem WkL.nil : WkL [] [] := .refl _
theorem WkL.cons {a a0 : AV} {l l0 : List AV} (h : Wk a a0) (hl : WkL l l0) : WkL (a :: l) (a0 :: l0) := by
 refine ⟨by simp [hl.1],fun i h1 h2 => ?_⟩
 cases i with
 | zero => exact h
 | succ i => exact hl.2 i (by simpa using h1) (by simpa using h2)
theorem WkL.inv_cons {a0 : AV} {l l0 : List AV} (h : WkL l (a0 :: l0)) : ∃ a l',l = a :: l' ∧ Wk a a0 ∧ WkL l' l0 := by
 cases l with
 | nil => have := h.1; simp at this
 | cons a l' =>
  refine ⟨a,l',rfl,h.2 0 (by simp) (by simp),by have := h.1; simpa using this,fun i h1 h2 => ?_⟩
  exact h.2 (i + 1) (by simpa using h1) (by simpa using h2)
theorem WkL.inv_nil {l : List AV} (h : WkL l []) : l = [] := List.eq_nil_of_length_eq_zero (by simpa using h.1)
theorem WkL.append {a a0 b b0 : List AV} (h : WkL a a0) (h' : WkL b b0) : WkL (a ++ b) (a0 ++ b0) := by
 refine ⟨by simp [h.1,h'.1],fun i h1 h2 => ?_⟩
 by_cases hi : i < a.length
 · rw [List.getElem_append_left hi,List.getElem_append_left (by rw [← h.1]; exact hi)]; exact h.2 _ _ _
 · have he := h.1
   rw [List.getElem_append_right (by omega),List.getElem_append_right (by omega)]
   simp only [he]
   exact h'.2 _ (by simp at h1; omega) (by simp at h2; omega)
theorem WkL.drop {l l0 : List AV} (h : WkL l l0) (n : Nat) : WkL (l.drop n) (l0.drop n) :=
 ⟨by simp [h.1],fun i h1 h2 => by simp only [List.getElem_drop]; exact h.2 _ _ _⟩
theorem WkL.take {l l0 : List AV} (h : WkL l l0) (n : Nat) : WkL (l.take n) (l0.take n) :=
 ⟨by simp [h.1],fun i h1 h2 => by simp only [List.getElem_take]; exact h.2 _ _ _⟩
theorem WkL.set {l l0 : List AV} (h : WkL l l0) {a a0 : AV} (ha : Wk a a0) (n : Nat) : WkL (l.set n a) (l0.set n a0) := by
 refine ⟨by simp [h.1],fun i h1 h2 => ?_⟩
 by_cases hi : n = i
 · subst hi; simp only [List.getElem_set_self]; exact ha
 · simp only [List.getElem_set_ne hi]; exact h.2 _ _ _
theorem WkL.get {l l0 : List AV} (h : WkL l l0) {i : Nat} {a0 : AV} (hi : l0[i]? = some a0) : ∃ a,l[i]? = some a ∧ Wk a a0 := by
 obtain ⟨h1,rfl⟩ := List.getElem?_eq_some_iff.1 hi
 have h2 : i < l.length := by rw [h.1]; exact h1
 exact ⟨l[i],List.getElem?_eq_getElem h2,h.2 _ _ _⟩
theorem WkL.setAt {cs cs0 : List AV} : ∀ {l l0 : List AV} (_ : WkL l l0) (_ : WkL cs cs0) (j : Nat),WkL (setAt l j cs) (setAt l0 j cs0) := by
 induction cs0 generalizing cs with
 | nil => intro l l0 h hc j; rw [hc.inv_nil]; exact h
 | cons c0 cs0 ih =>
  intro l l0 h hc j
  obtain ⟨c,cs',rfl,h1,h2⟩ := hc.inv_cons
  exact ih (h.set h1 j) h2 (j + 1)
def WkR (l l0 : List (List AV)) : Prop := l.length = l0.length ∧ ∀ i (h : i < l.length) (h' : i < l0.length),WkL l[i] l0[i]
theorem WkR.refl (l : List (List AV)) : WkR l l := ⟨rfl,fun _ _ _ => .refl _⟩
theorem WkR.nil : WkR [] [] := .refl _
theorem WkR.cons {a a0 : List AV} {l l0 : List (List AV)} (h : WkL a a0) (hl : WkR l l0) : WkR (a :: l) (a0 :: l0) := by
 refine ⟨by simp [hl.1],fun i h1 h2 => ?_⟩
 cases i with
 | zero => exact h
 | succ i => exact hl.2 i (by simpa using h1) (by simpa using h2)
theorem WkR.append {a a0 b b0 : List (List AV)} (h : WkR a a0) (h' : WkR b b0) : WkR (a ++ b) (a0 ++ b0) := by
 refine ⟨by simp [h.1,h'.1],fun i h1 h2 => ?_⟩
 by_cases hi : i < a.length
 · rw [List.getElem_append_left hi,List.getElem_append_left (by rw [← h.1]; exact hi)]; exact h.2 _ _ _
 · have he := h.1
   rw [List.getElem_append_right (by omega),List.getElem_append_right (by omega)]
   simp only [he]
   exact h'.2 _ (by simp at h1; omega) (by simp at h2; omega)
theorem WkR.get {l l0 : List (List AV)} (h : WkR l l0) {i : Nat} {a0 : List AV} (hi : l0[i]? = some a0) : ∃ a,l[i]? = some a ∧ WkL a a0 := by
 obtain ⟨h1,rfl⟩ := List.getElem?_eq_some_iff.1 hi
 have h2 : i < l.length := by rw [h.1]; exact h1
 exact ⟨l[i],List.getElem?_eq_getElem h2,h.2 _ _ _⟩
theorem WkR.set {l l0 : List (List AV)} (h : WkR l l0) {a a0 : List AV} (ha : WkL a a0) (n : Nat) : WkR (l.set n a) (l0.set n a0) := by
 refine ⟨by simp [h.1],fun i h1 h2 => ?_⟩
 by_cases hi : n = i
 · subst hi; simp only [List.getElem_set_self]; exact ha
 · simp only [List.getElem_set_ne hi]; exact h.2 _ _ _
theorem WkR.drop {l l0 : List (List AV)} (h : WkR l l0) (n : Nat) : WkR (l.drop n) (l0.drop n) :=
 ⟨by simp [h.1],fun i h1 h2 => by simp only [List.getElem_drop]; exact h.2 _ _ _⟩
theorem WkR.take {l l0 : List (List AV)} (h : WkR l l0) (n : Nat) : WkR (l.take n) (l0.take n) :=
 ⟨by simp [h.1],fun i h1 h2 => by simp only [List.getElem_take]; exact h.2 _ _ _⟩
def WkB (b b0 : Blk) : Prop := b.fz = b0.fz ∧ b.ap = b0.ap ∧ b.ty = b0.ty ∧ b.sz = b0.sz ∧ WkR b.rows b0.rows
def WkO : Option Blk → Option Blk → Prop
 | none,none => True
 | some b,some b0 => WkB b b0
 | _,_ => False
structure WkS (s s0 : Sta) : Prop where
 n : s.n = s0.n
 nx : s.nx = s0.nx
 tm : ∀ t,Wk (s.tm t) (s0.tm t)
 H : ∀ b,WkO (s.H b) (s0.H b)
theorem WkS.refl (s : Sta) : WkS s s := ⟨rfl,rfl,fun _ => .refl _,fun b => by cases h : s.H b with | none => trivial | some x => exact ⟨rfl,rfl,rfl,rfl,.refl _⟩⟩
structure WhB (H : Heap) (b b0 : Blk) : Prop where
 fz : b0.fz = b.fz
 ap : b0.ap = b.ap
 ty : b0.ty = b.ty
 sz : b0.sz = b.sz
 len : b0.rows.length = b.rows.length
 row : ∀ i (h : i < b.rows.length) (h' : i < b0.rows.length),(b0.rows[i]).length = (b.rows[i]).length
 cell : ∀ i (h : i < b.rows.length) (h' : i < b0.rows.length) j (hj : j < (b.rows[i]).length) (hj' : j < (b0.rows[i]).length),Wh H (b.rows[i])[j] (b0.rows[i])[j]
structure WhS (s s0 : Sta) : Prop where
 n : s0.n = s.n
 nx : s0.nx = s.nx
 tm : ∀ t,Wh s.H (s.tm t) (s0.tm t)
 H : ∀ b,(s.H b = none ∧ s0.H b = none) ∨ ∃ x x0,s.H b = some x ∧ s0.H b = some x0 ∧ WhB s.H x x0
theorem WkB.wh {b b0 : Blk} (h : WkB b b0) : WhB H b b0 := by
 obtain ⟨h1,h2,h3,h4,h5,h6⟩ := h
 exact ⟨h1.symm,h2.symm,h3.symm,h4.symm,h5.symm,fun i hi hi' => (h6 i hi hi').1.symm,fun i hi hi' j hj hj' => ((h6 i hi hi').2 j hj hj').wh⟩
theorem WkS.wh {s s0 : Sta} (h : WkS s s0) : WhS s s0 := by
 refine ⟨h.n.symm,h.nx.symm,fun t => (h.tm t).wh,fun b => ?_⟩
 have hb := h.H b
 cases h1 : s.H b with
 | none =>
  cases h2 : s0.H b with
  | none => exact .inl ⟨rfl,rfl⟩
  | some y => rw [h1,h2] at hb; exact hb.elim
 | some x =>
  cases h2 : s0.H b with
  | none => rw [h1,h2] at hb; exact hb.elim
  | some y => rw [h1,h2] at hb; exact .inr ⟨x,y,rfl,rfl,WkB.wh hb⟩
theorem ext_wh {s s0 : Sta} (h : WhS s s0) : Ext w C ρ s.H w C ρ s0.H := by
 have hs : ∀ b,(s0.H b).isSome = (s.H b).isSome := fun b => by
  rcases h.H b with ⟨h1,h2⟩ | ⟨x,x0,h1,h2,_⟩
  · rw [h1,h2]
  · rw [h1,h2]; rfl
 refine ⟨fun _ _ h => h,fun _ _ _ => rfl,fun b blk hb => ?_,rfl,rfl,rfl,Nat.le_refl _,fun _ _ _ => rfl,?_,fun _ _ h => .inl h⟩
 · rcases h.H b with ⟨h1,_⟩ | ⟨x,x0,h1,h2,hx⟩
   · rw [h1] at hb; simp at hb
   · rw [h1] at hb; cases hb
     exact ⟨x0,h2,hx.sz,by rw [hx.len]; exact Nat.le_refl _,fun _ => rfl⟩
 · rintro r ⟨b,z,hb,hr⟩
   rw [hs] at hb
   exact .inl ⟨b,z,hb,hr⟩
theorem relH_wh {s s0 : Sta} (h : WhS s s0) (hR : RelH w C ρ s.H) : RelH w C ρ s0.H := by
 have e := ext_wh (w := w) (C := C) (ρ := ρ) h
 have hs : ∀ b,(s0.H b).isSome = (s.H b).isSome := fun b => by
  rcases h.H b with ⟨h1,h2⟩ | ⟨x,x0,h1,h2,_⟩
  · rw [h1,h2]
  · rw [h1,h2]; rfl
 refine ⟨fun b blk hb => ?_,fun b b' r z z' hne hb hb' hr hr' => hR.dis b b' r z z' hne (by rw [← hs]; exact hb) (by rw [← hs]; exact hb') hr hr',hR.com⟩
 rcases h.H b with ⟨_,h2⟩ | ⟨x,x0,h1,h2,hx⟩
 · rw [h2] at hb; simp at hb
 · rw [h2] at hb; cases hb
   have h0 := hR.blk b x h1
   unfold BlkOK at h0 ⊢
   cases hr : ρ b with
   | none =>
    rw [hr] at h0
    simp only at h0 ⊢
    exact ⟨by have := hx.len; rw [h0.1] at this; exact List.eq_nil_of_length_eq_zero (by simpa using this),by rw [hx.ap]; exact h0.2⟩
   | some p =>
    obtain ⟨r,z⟩ := p
    rw [hr] at h0
    simp only at h0 ⊢
    obtain ⟨⟨cs,lo,hh,a1,a2,a3,a4,a5,a6,a7⟩,a8,a9⟩ := h0
    refine ⟨⟨cs,lo,hh,by rw [hx.ty]; exact a1,a2,by rw [hx.fz,hx.ap]; exact a3,by rw [hx.fz]; exact a4,by rw [hx.len,hx.sz]; exact a5,fun i hi => ?_,fun i j hi hj => ?_⟩,by rw [hx.fz]; exact a8,by rw [hx.fz,hx.len,hx.sz]; exact a9⟩
    · have hi' : i < x.rows.length := by rw [← hx.len]; exact hi
      rw [hx.row i hi' hi,hx.sz]; exact a6 i hi'
    · have hi' : i < x.rows.length := by rw [← hx.len]; exact hi
      have hj' : j < (x.rows[i]).length := by rw [← hx.row i hi' hi]; exact hj
      obtain ⟨v,v1,v2,v3⟩ := a7 i j hi' hj'
      exact ⟨v,by rw [hx.sz]; exact v1,v2,(hx.cell i hi' hi j hj' hj w C ρ v hR v3).mono e⟩
theorem Ent.wh {s s0 : Sta} (h : WhS s s0) : Ent k s s0 := by
 rintro G B a w hk ⟨C,ρ,hi⟩
 have e := ext_wh (w := w) (C := C) (ρ := ρ) h
 refine ⟨C,ρ,⟨fun t => ?_,by rw [h.n]; exact hi.rel.size,relH_wh h hi.rel.h,trivial,hi.rel.defers⟩,fun b hb => ?_,hi.ext.trans e,hi.glob,hi.marks⟩
 · exact (h.tm t w C ρ _ hi.rel.h (hi.rel.tm t)).mono e
 · have hb' : s.H b = none := hi.nx b (by rw [← h.nx]; exact hb)
   rcases h.H b with ⟨_,h2⟩ | ⟨x,x0,h1,_⟩
   · exact h2
   · rw [h1] at hb'; simp at hb'
theorem Ent.wk {s s0 : Sta} (h : WkS s s0) : Ent k s s0 := .wh h.wh
theorem Ent.pin {s : Sta} (bs : List Nat) : Ent k s { s with H := pinH bs s.H } := by
 rintro G B a w hk ⟨C,ρ,hi⟩
 have e := ext_pin (w := w) (C := C) (ρ := ρ) (H := s.H) bs
 refine ⟨pinC bs s.H ρ C,ρ,⟨fun t => (hi.rel.tm t).mono e,hi.rel.size,relH_pin hi.rel.h bs,trivial,hi.rel.defers⟩,fun b hb => ?_,hi.ext.trans e,hi.glob.mono e.com e.cell,hi.marks⟩
 have : s.H b = none := hi.nx b hb
 show pinH bs s.H b = none
 unfold pinH
 split <;> simp [this]
theorem Wh.frz {b : Nat} {blk : Blk} {xs : List (List D)} (hb : H b = some blk) (hf : blk.fz = true) (hr : blk.rows = xs.map (·.map .d)) : Wh H (.own b xs.length 0 xs.length) (.d (.sl xs)) := by
 intro w C ρ v hR h
 have ht : (xs.map (·.map AV.d)).take xs.length = xs.map (·.map AV.d) := List.take_of_length_le (by simp)
 have hall : ∀ row ∈ xs.map (·.map AV.d),∃ y : List D,row = y.map .d := fun row hrow => by
  obtain ⟨y,_,rfl⟩ := List.mem_map.1 hrow
  exact ⟨y,rfl⟩
 have h1 := frz_rep hR (C1 := C) (fun _ _ h => h) 1 _ v h (by
  simp only [frzOk,hb,hr,List.length_map,decide_true,Bool.true_and,Nat.zero_add,Nat.le_refl,List.drop_zero,ht,List.all_eq_true]
  intro row hrow
  obtain ⟨y,rfl⟩ := hall row hrow
  intro c hc
  obtain ⟨z,_,rfl⟩ := List.mem_map.1 hc
  rfl) (by
  intro b' blk' r s hb' hH hρ o ho
  simp only [frzIds,hb,hr,List.drop_zero,ht,List.mem_cons] at hb'
  rcases hb' with rfl | hb'
  · rw [hb] at hH; cases hH
    have h0 := hR.blk b' blk hb
    unfold BlkOK at h0
    rw [hρ] at h0
    exact h0.2.2 hf o ho
  · exfalso
    obtain ⟨row,hrow,hb'⟩ := List.mem_flatMap.1 hb'
    obtain ⟨y,rfl⟩ := hall row hrow
    obtain ⟨c,hc,hb'⟩ := List.mem_flatMap.1 hb'
    obtain ⟨z,_,rfl⟩ := List.mem_map.1 hc
    simp [frzIds] at hb')
 have h2 : frzD 1 H (.own b xs.length 0 xs.length) = .sl xs := by
  simp only [frzD,hb,hr,List.drop_zero,ht,List.map_map]
  congr 1
  have e1 : (frzD 0 H ∘ AV.d) = id := by funext z; rfl
  have e2 : ((fun l => List.map (frzD 0 H) l) ∘ fun l => List.map AV.d l) = id := by
   funext y
   simp only [Function.comp,List.map_map,e1,List.map_id,id]
  rw [e2,List.map_id]
 rw [h2] at h1
 exact .d _ _ h1
end Am
