/- The abstract machine and its reader: lemmas. -/
import Derived.Test.YtojkhlijbpmgpaaGreatAmSe20
set_option linter.unusedSimpArgs false
set_option linter.unusedVariables false
set_option linter.unusedSectionVars false
namespace Am
open Go
variable {P : Program} {G : Glob}
def iniSS (sg : Sig) (n : Nat) : SS := { tm := sg.args,H := sg.Hin.map some,nx := sg.Hin.length,n := n }
def IR.ok (ns : Nat → Nat) (m : Nat) (ar : List Nat) : IR → Bool
 | .op p args k => p.okP && args.all (SA.ok m) && k.ok ns (m + p.nout) ar
 | .ite _ a b => a.ok ns m ar && b.ok ns m ar
 | .isf _ _ a b => a.ok ns m ar && b.ok ns m ar
 | .call i n _ _ args k => args.all (SA.ok m) && args.length == ns i && k.ok ns (m + n) ar
 | .letj n body rest => body.ok ns m (ar ++ [n]) && rest.ok ns (m + n) ar
 | .loop n init body => init.all (SA.ok m) && init.length == n && body.ok ns (m + n) (ar ++ [n])
 | .jump j args => args.all (SA.ok m) && (match ar[j]? with | some n => args.length == n | none => false)
 | .ret args => args.all (SA.ok m)
 | .fail => true
def JWF (ar : List Nat) (J : List PF) : Prop := ar.length = J.length ∧ ∀ (j : Nat) (f : PF) (n : Nat),J[j]? = some f → ar[j]? = some n → ∀ vs r,vs.length = n → EWF vs → f vs = some r → EWF r
theorem JWF.snoc {ar : List Nat} {J : List PF} (h : JWF ar J) {f : PF} {n : Nat} (hf : ∀ vs r,vs.length = n → EWF vs → f vs = some r → EWF r) : JWF (ar ++ [n]) (J ++ [f]) := by
 obtain ⟨h1,h2⟩ := h
 refine ⟨by simp [h1],fun j g k hg hk => ?_⟩
 by_cases hj : j < J.length
 · rw [List.getElem?_append_left hj] at hg
   rw [List.getElem?_append_left (by omega)] at hk
   exact h2 j g k hg hk
 · rw [List.getElem?_append_right (by omega)] at hg
   rw [List.getElem?_append_right (by omega)] at hk
   by_cases h0 : j - J.length = 0
   · rw [h1,h0] at hk
     rw [h0] at hg
     simp at hg hk
     subst hg; subst hk
     exact hf
   · rw [List.getElem?_eq_none (by simp; omega)] at hg; simp at hg
theorem den_wf0 {R : Nat → PF} {ns : Nat → Nat} (hR : ∀ i a o,a.length = ns i → EWF a → R i a = some o → EWF o) : ∀ (ir : IR) {e : Env} {J : List PF} {ar : List Nat} {r : List D},ir.ok ns e.length ar = true → EWF e → JWF ar J → den R ir e J = some r → EWF r := by
 intro ir
 induction ir with
 | op p args k ih =>
  intro e J ar r hok he hJ h
  simp only [IR.ok,Bool.and_eq_true] at hok
  simp only [den] at h
  split at h
  · rename_i o ho
    exact ih (by simp [PO.eval_len ho]; exact hok.2) (he.append (PO.eval_wf hok.1.1 (he.map hok.1.2) ho)) hJ h
  · simp at h
 | ite c a b iha ihb =>
  intro e J ar r hok he hJ h
  simp only [IR.ok,Bool.and_eq_true] at hok
  simp only [den] at h
  split at h
  · exact iha hok.1 he hJ h
  · exact ihb hok.2 he hJ h
  · simp at h
 | isf c f a b iha ihb =>
  intro e J ar r hok he hJ h
  simp only [IR.ok,Bool.and_eq_true] at hok
  simp only [den] at h
  split at h
  · exact iha hok.1 he hJ h
  · exact ihb hok.2 he hJ h
 | call i n sc sl args k ih =>
  intro e J ar r hok he hJ h
  simp only [IR.ok,Bool.and_eq_true] at hok
  simp only [den] at h
  split at h
  · rename_i o ho
    split at h
    · rename_i hn
      exact ih (by simp [hn.1]; exact hok.2) (he.append (hR i _ o (by simpa using hok.1.2) (he.map hok.1.1) ho)) hJ h
    · simp at h
  · simp at h
 | letj n body rest ihb ihr =>
  intro e J ar r hok he hJ h
  simp only [IR.ok,Bool.and_eq_true] at hok
  simp only [den] at h
  exact ihb hok.1 he (hJ.snoc fun vs r hl hv hr => ihr (by simp [hl]; exact hok.2) (he.append hv) hJ hr) h
 | loop n init body ih =>
  intro e J ar r hok he hJ h
  simp only [IR.ok,Bool.and_eq_true,beq_iff_eq] at hok
  simp only [den] at h
  obtain ⟨k,hk⟩ := lim_some h
  have key : ∀ k vs r,vs.length = n → EWF vs → iter (fun L vs => den R body (e ++ vs) (J ++ [L])) k vs = some r → EWF r := by
   intro k
   induction k with
   | zero => intro vs r _ _ h; simp [iter] at h
   | succ k ihk =>
    intro vs r hl hv h
    simp only [iter] at h
    exact ih (by simp [hl]; exact hok.2) (he.append hv) (hJ.snoc ihk) h
  exact key k _ _ (by simp [hok.1.2]) (he.map hok.1.1) hk
 | jump j args =>
  intro e J ar r hok he hJ h
  simp only [IR.ok,Bool.and_eq_true] at hok
  simp only [den] at h
  split at h
  · rename_i f hf
    have h2 := hok.2
    split at h2
    · rename_i n hn
      exact hJ.2 j f n hf hn _ _ (by simpa using h2) (he.map hok.1) h
    · simp at h2
  · simp at h
 | ret args =>
  intro e J ar r hok he hJ h
  simp only [den] at h
  cases h
  exact he.map hok
 | fail => intro e J ar r _ _ _ h; simp [den] at h
def ninOf (sigs : List Sig) (i : Nat) : Nat := match sigs[i]? with | some s => s.nin | none => 0
def Ann.txt0 : Ann → Ann
 | .g _ x => x
 | x => x
def Ann.backs : Ann → List (FuncId × Nat)
 | .g ps _ => ps
 | _ => []
def Ann.fns (a : Ann) : List Nat := match a.txt0 with
 | .f xs _ => xs
 | _ => []
def Ann.txt (a : Ann) : Ann := match a.txt0 with
 | .f _ x => x
 | x => x
def AnnOK (P : Program) (a : Ann) : Prop := ∀ p ∈ a.backs,BackOK P p.1 p.2
theorem AnnOK.nil {P : Program} {a : Ann} (h : a.backs = [] := by rfl) : AnnOK P a := fun p hp => by rw [h] at hp; cases hp
theorem backOf_mem : ∀ {l : List (FuncId × Nat)} {f : FuncId} {sz : Nat},backOf l f = some sz → (f,sz) ∈ l
 | [],_,_,h => by simp [backOf] at h
 | p :: l,f,sz,h => by
  simp only [backOf] at h
  split at h
  · rename_i hp
    simp only [Option.some.injEq] at h
    have : p.1 = f := by simpa using hp
    subst h; subst this
    exact List.mem_cons_self
  · exact List.mem_cons_of_mem _ (backOf_mem h)
def readFn (T : Tab) (SG : SGlob) (sigs : List Sig) (fuel : Nat) (sg : Sig) (fn : Func) (ann : Ann) : Option IR := match fn.body with
 | none => none
 | some body =>
  if SS.okB sg.nin (iniSS sg fn.ntmps) && Nat.ble sg.args.length fn.ntmps && !(fn.name == "runtime.NumGoroutine") && sg.kp.isEmpty then
   (match gen { T,SG,sigs,sig := sg,fn,fns := ann.fns,mixed := true,backs := ann.backs } sg.Hin.length fuel (.code body ann.txt) (iniSS sg fn.ntmps) sg.nin 0 [] with
   | some x => if x.ok (ninOf sigs) sg.nin [] then some x else none
   | none => none)
  else none
theorem getS_get (l : List SV) : ∀ t,getS l t = l.getD t .junk := by
 induction l with
 | nil => intro t; cases t <;> rfl
 | cons a l ih => intro t; cases t with
  | zero => rfl
  | succ t => simpa [getS] using ih t
theorem readFn_ok {T : Tab} {SG : SGlob} {sigs : List Sig} {fuel : Nat} {sg : Sig} {fn : Func} {ann : Ann} {x : IR} (hT : TOK P T) (hG : GOK G SG) (hmix : P.follows .mixedOrders = true) {R : Nat → PF} (hR : ∀ i a o,a.length = ninOf sigs i → EWF a → R i a = some o → EWF o)
 (hsig : ∀ (i : Nat) (s : Sig),sigs[i]? = some s → SigOK P G (R i) s) (hf : P.funcs[sg.f]? = some fn) (hann : AnnOK P ann) (h : readFn T SG sigs fuel sg fn ann = some x) : SigOK P G (fun a => den R x a []) sg := by
 unfold readFn at h
 split at h
 · simp at h
 · rename_i body hb
   split at h
   · rename_i hc
     simp only [Bool.and_eq_true,Bool.not_eq_true'] at hc
     obtain ⟨⟨⟨c1,c2⟩,c3⟩,c4⟩ := hc
     split at h
     · rename_i x' hx
       split at h
       · rename_i hok
         cases h
         intro ins outs hwf hl hsl hr hno
         have hS : Sat ins (iniSS sg fn.ntmps) ⟨iniA (SV.instL ins (lnL ins sg.Hin) sg.args) fn.ntmps,hOf (hIn ins sg.Hin),(hIn ins sg.Hin).length,fn.ntmps⟩ := by
          refine ⟨hwf,fun t => by rw [hl]; exact okB_tm c1 t,fun b k hk => by rw [hl]; exact okB_H c1 hk,fun b k hk => ?_,⟨rfl,by simp [iniSS,SS.inst,hIn],fun t => ?_,fun b => ?_⟩⟩
          · have hk' : getB (sg.Hin.map some) b = some k := hk
            rw [getB_some] at hk'
            exact hsl k (List.mem_of_getElem? hk')
          · show Wk (iniA _ _ t) ((getS sg.args t).inst ins (lnOf ins (sg.Hin.map some)))
            rw [getS_get,List.getD_eq_getElem?_getD]
            by_cases ht : t < sg.args.length
            · rw [List.getElem?_eq_getElem ht]
              unfold iniA
              rw [List.getD_eq_getElem?_getD,List.getElem?_append_left (by rw [instL_len]; exact ht),SV.instL_map,List.getElem?_map,List.getElem?_eq_getElem ht]
              exact .refl _
            · rw [List.getElem?_eq_none (by omega)]; exact .junk _
          · show WkO (hOf (hIn ins sg.Hin) b) ((getB (sg.Hin.map some) b).map (·.inst ins (lnOf ins (sg.Hin.map some))))
            rw [getB_some]
            unfold hOf hIn
            rw [List.getElem?_map]
            cases sg.Hin[b]? with
            | none => trivial
            | some k => exact ⟨rfl,rfl,rfl,rfl,.refl _⟩
         have hk : (hIn ins sg.Hin).length = sg.Hin.length := by simp [hIn]
         refine ⟨den_wf0 hR x (ar := []) (by rw [hl]; exact hok) hwf ⟨rfl,fun j f n hj => by simp at hj⟩ hr,CC.intro hf hb c3 (by rw [instL_len]; exact Nat.le_of_ble_eq_true c2) ?_,fun i hi => by rw [List.isEmpty_iff.1 c4] at hi; simp [inL] at hi⟩
         have := gen_sound (P := P) (G := G) hT hG (fun _ => hmix) hsig (fun f sz hb => hann _ (backOf_mem hb)) fuel _ (.code body ann.txt) _ _ _ [] x hx ins [] _ outs
          (fun e s => ∃ s',Ent sg.Hin.length s s' ∧ Fin P fn sg.Hin.length (hIn outs sg.Hout) (sg.res.inst outs (lnL outs sg.Hout)) e s') hl rfl hr hS
          ⟨rfl,fun ex s s' he ⟨s2,h1,h2⟩ => ⟨s2,he.trans h1,h2⟩,fun ex s hfin => ⟨s,.refl _ _,hfin⟩⟩
         rw [hk] at this ⊢
         exact this
       · simp at h
     · simp at h
   · simp at h
structure TabOK (P : Program) (G : Glob) (T : Tab) (SG : SGlob) (sigs : List Sig) (tb : Nat → TE) : Prop where
 ir : ∀ (i : Nat) (x : IR),tb i = .ir x → ∃ sg fn ann fuel,sigs[i]? = some sg ∧ P.funcs[sg.f]? = some fn ∧ readFn T SG sigs fuel sg fn ann = some x ∧ AnnOK P ann
 ext : ∀ (i : Nat) (E : PF),tb i = .ext E → (∀ a o,a.length = ninOf sigs i → EWF a → E a = some o → EWF o) ∧ ∀ sg,sigs[i]? = some sg → SigOK P G E sg
theorem tab_ok {T : Tab} {SG : SGlob} {sigs : List Sig} {tb : Nat → TE} (hT : TOK P T) (hG : GOK G SG) (hmix : P.follows .mixedOrders = true) (h : TabOK P G T SG sigs tb) :
 ∀ n,(∀ i a o,a.length = ninOf sigs i → EWF a → runN tb n i a = some o → EWF o) ∧ ∀ (i : Nat) (sg : Sig),sigs[i]? = some sg → SigOK P G (runN tb n i) sg := by
 intro n
 induction n with
 | zero => exact ⟨fun i a o _ _ hr => by simp [runN] at hr,fun i sg _ ins outs _ _ _ hr => by simp [runN] at hr⟩
 | succ n ih =>
  obtain ⟨ih1,ih2⟩ := ih
  refine ⟨fun i a o hl ha hr => ?_,fun i sg hsg => ?_⟩
  · simp only [runN] at hr
    cases ht : tb i with
    | ext E => rw [ht] at hr; exact (h.ext i E ht).1 a o hl ha hr
    | ir x =>
     rw [ht] at hr
     obtain ⟨sg,fn,ann,fuel,h1,h2,h3,_⟩ := h.ir i x ht
     unfold readFn at h3
     split at h3
     · simp at h3
     · split at h3
       · split at h3
         · split at h3
           · rename_i hok
             cases h3
             have hl' : a.length = sg.nin := by rw [hl]; simp [ninOf,h1]
             exact den_wf0 ih1 x (ar := []) (by rw [hl']; exact hok) ha ⟨rfl,fun j f n hj => by simp at hj⟩ hr
           · simp at h3
         · simp at h3
       · simp at h3
  · cases ht : tb i with
    | ext E =>
     have : runN tb (n + 1) i = E := by simp only [runN,ht]
     rw [this]; exact (h.ext i E ht).2 sg hsg
    | ir x =>
     have : runN tb (n + 1) i = fun a => den (runN tb n) x a [] := by simp only [runN,ht]
     rw [this]
     obtain ⟨sg',fn,ann,fuel,h1,h2,h3,h4⟩ := h.ir i x ht
     rw [hsg] at h1; cases h1
     exact readFn_ok hT hG hmix ih1 ih2 h2 h4 h3
def tfOf (P : Program) (t : TypeId) : TF :=
 { sz := tsz P t,bt := tby P t,ti := tin P t,tu := tun P t,agg := tagg P t,elem := telem P t,arr := tarr P t,int := tint P t,str := tstr P t,bool := tbool P t,zero := tzero P t,
   flds := (match P.underlying t with | some (.struct fs) => fs.toList.map (fun f => (f.offset,f.type)) | _ => []),
   place := (match P.underlying t with | some (.struct _) => tplace P t | some (.array n _) => if Nat.ble n 16 then tplace P t else none | _ => none) }
theorem tfOf_ok (P : Program) (t : TypeId) : TFok P t (tfOf P t) := by
 refine ⟨rfl,rfl,rfl,rfl,rfl,rfl,rfl,rfl,rfl,rfl,rfl,fun f x h => ?_,fun pl h => ?_⟩
 · simp only [tfOf] at h
   unfold tfield
   split at h
   · rename_i fs hu
     simp only [hu]
     rw [List.getElem?_map,Array.getElem?_toList] at h
     exact h
   · simp at h
 · simp only [tfOf] at h
   split at h
   · exact h
   · split at h
     · exact h
     · simp at h
   · simp at h
theorem tok_of {T : Tab} (h : T.map (fun p => tfOf P p.1) = T.map (·.2)) : TOK P T := by
 intro t tf ht
 have key : ∀ {T : Tab},T.map (fun p => tfOf P p.1) = T.map (·.2) → T.get t = some tf → tfOf P t = tf := by
  intro T
  induction T with
  | nil => intro _ h; simp [Tab.get] at h
  | cons p T ih =>
   intro h h'
   simp only [List.map_cons,List.cons.injEq] at h
   simp only [Tab.get] at h'
   split at h'
   · rename_i hp
     have hp' : p.1 = t := by simpa using hp
     simp only [Option.some.injEq] at h'
     rw [← hp',h.1,h']
   · exact ih h.2 h'
 rw [← key h ht]
 exact tfOf_ok P t
theorem run_cc {T : Tab} {SG : SGlob} {sigs : List Sig} {tb : Nat → TE} (hT : TOK P T) (hG : GOK G SG) (hmix : P.follows .mixedOrders = true) (h : TabOK P G T SG sigs tb) {i : Nat} {sg : Sig} (hsg : sigs[i]? = some sg)
 {ins outs : Env} (hwf : EWF ins) (hl : ins.length = sg.nin) (hsl : ∀ k ∈ sg.Hin,∃ xs,k.d.val ins = .sl xs) (hr : run tb i ins = some outs) (hn : outs.length = sg.nout) :
 CC P G sg.f (hIn ins sg.Hin) (SV.instL ins (lnL ins sg.Hin) sg.args) (hIn outs sg.Hout) (sg.res.inst outs (lnL outs sg.Hout)) := by
 obtain ⟨n,hn'⟩ := run_N hr
 exact ((tab_ok hT hG hmix h n).2 i sg hsg ins outs hwf hl hsl hn' hn).2.1
end Am
