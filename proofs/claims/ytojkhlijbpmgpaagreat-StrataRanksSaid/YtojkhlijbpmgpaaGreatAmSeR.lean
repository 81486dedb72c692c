/- The abstract machine and its reader: lemmas. -/
import Derived.Test.YtojkhlijbpmgpaaGreatAmSe19
import Derived.Test.YtojkhlijbpmgpaaGreatAmRng
set_option linter.unusedSimpArgs false
set_option linter.unusedVariables false
set_option linter.unusedSectionVars false
namespace Am
open Go
variable {P : Program} {G : Glob}
theorem sNil_c {q : SA} (h : sNil q = true) : ∀ e : Env,q.val e = .sl [] := by
 intro e
 cases q with
 | v x => simp [sNil] at h
 | c d => cases d with
  | sl xs => cases xs with
   | nil => rfl
   | cons => simp [sNil] at h
  | _ => simp [sNil] at h
theorem len_nilK {k : SB} (h : sNil k.d = true) (e : Env) : k.len e = k.tl.length := by simp [SB.len,sNil_c h e,D.rows]
theorem lnOf_box {e : Env} {H : List (Option SB)} {b : Nat} {k : SB} (hb : getB H b = some k) (h : sNil k.d = true) : lnOf e H b = k.tl.length := by rw [lnOf_some hb,len_nilK h]
theorem stab_inst {H : List (Option SB)} {v : SV} (h : stabV H v = true) {e a b : Env} (hok : v.ok e.length = true) : v.inst (e ++ a) (lnOf (e ++ a) H) = v.inst (e ++ b) (lnOf (e ++ b) H) := by
 unfold stabV at h
 split at h
 · simp only [SV.inst]; rw [SA.val_ext' a hok,SA.val_ext' b hok]
 · rfl
 · rename_i c _ _
   unfold boxB at h
   split at h
   · rename_i k hk; simp only [SV.inst]; rw [lnOf_box hk h,lnOf_box hk h]
   · cases h
 · rename_i c _ _
   unfold boxB at h
   split at h
   · rename_i k hk; simp only [SV.inst,SV.instL]; rw [lnOf_box hk h,lnOf_box hk h]
   · cases h
 · cases h
theorem stabS_stab (H : List (Option SB)) (v : SV) : stabS H v = .junk ∨ stabV H (stabS H v) = true := by
 unfold stabS
 by_cases h : stabV H v = true
 · rw [if_pos h]; exact .inr h
 · rw [if_neg h]; exact .inl rfl
theorem stabS_junk (H : List (Option SB)) : stabS H .junk = .junk := by unfold stabS; split <;> rfl
structure Stab (e : Env) (σL : SS) (s0 : Sta) : Prop where
 n : s0.n = σL.n
 ok : ∀ t,(getS σL.tm t).ok e.length = true
 st : ∀ t,getS σL.tm t = .junk ∨ stabV σL.H (getS σL.tm t) = true
 wk : ∀ t,Wk (s0.tm t) ((getS σL.tm t).inst e (lnOf e σL.H))
theorem Stab.inst {e : Env} {σL : SS} {s0 : Sta} (h : Stab e σL s0) (o : Env) (t : Nat) : Wk (s0.tm t) ((getS σL.tm t).inst (e ++ o) (lnOf (e ++ o) σL.H)) := by
 rcases h.st t with hj | hs
 · rw [hj]; exact .junk _
 · have h1 := h.wk t
   have h2 := stab_inst hs (e := e) (a := []) (b := o) (h.ok t)
   rw [List.append_nil] at h2
   rw [← h2]; exact h1
theorem Stab.sat {e o : Env} {σL : SS} {s0 : Sta} (h : Stab e σL s0) {s1 : Sta} (hS : Sat (e ++ o) { σL with tm := [] } s1) : Sat (e ++ o) σL { s0 with H := s1.H,nx := s1.nx } := by
 refine ⟨hS.wf,fun t => SV.ok_mono (by simp) (h.ok t),hS.H,hS.sl,⟨h.n,hS.wk.nx,fun t => h.inst o t,hS.wk.H⟩⟩
theorem restV_junk (HL H : List (Option SB)) : restV HL H .junk = .junk := rfl
theorem Stab.rest {e o : Env} {σL σ : SS} {s0 s : Sta} (h : Stab e σL s0) (hS : Sat (e ++ o) σ s) : Sat (e ++ o) (σL.rest σ) { s0 with H := s.H,nx := s.nx } := by
 refine ⟨hS.wf,fun t => ?_,hS.H,hS.sl,⟨h.n,hS.wk.nx,fun t => ?_,hS.wk.H⟩⟩
 · show (getS (σL.tm.map (restV σL.H σ.H)) t).ok _ = true
   rw [getS_map (restV_junk _ _)]
   have hk := SV.ok_mono (m' := (e ++ o).length) (by simp) (h.ok t)
   generalize getS σL.tm t = v at hk
   cases v <;> simp only [restV] <;> first | exact hk | rfl | skip
   split <;> rfl
 · show Wk (s0.tm t) ((getS (σL.tm.map (restV σL.H σ.H)) t).inst (e ++ o) (lnOf (e ++ o) σ.H))
   rw [getS_map (restV_junk _ _)]
   have h1 := h.inst o t
   generalize getS σL.tm t = v at h1
   cases v with
   | atm a => exact h1
   | nils => exact h1
   | ptr b i j =>
    simp only [restV]
    split
    · rename_i hb
      unfold sameBox at hb
      split at hb
      · rename_i k k' hk hk'
        simp only [Bool.and_eq_true,beq_iff_eq] at hb
        simp only [SV.inst] at h1 ⊢
        rw [lnOf_box hk hb.1.1] at h1
        rw [lnOf_box hk' hb.1.2,← hb.2]; exact h1
      · cases hb
    · exact .junk _
   | _ => exact .junk _
theorem awp_straight {kk : Nat} : ∀ (c : Code),straightC c = true → ∀ {Q : Exit → Sta → Prop} {s : Sta},awp P G kk c Q s → awp P G kk c (fun e s => e = .normal ∧ Q .normal s) s := by
 intro c
 induction c with
 | region id ops draw =>
  intro _ Q s h
  have key : ∀ {l : List SO} {s : Sta},regE P G kk (Q .normal) l s → regE P G kk (fun s => Exit.normal = Exit.normal ∧ Q .normal s) l s := fun {l s} h => by
   have : (fun s => Exit.normal = Exit.normal ∧ Q .normal s) = Q .normal := by funext s; simp
   rw [this]; exact h
  cases draw with
  | false => exact key h
  | true =>
   have : (fun s => Exit.normal = Exit.normal ∧ Q .normal s) = Q .normal := by funext s; simp
   refine ⟨h.1,?_⟩
   have h2 := h.2
   simpa using h2
 | seq a b iha ihb =>
  intro hs Q s h
  simp only [straightC,Bool.and_eq_true] at hs
  show awp P G kk a _ s
  refine awp_mono (fun e s hh => ?_) (iha hs.1 h)
  obtain ⟨rfl,s',he,hb⟩ := hh
  exact ⟨s',he,ihb hs.2 hb⟩
 | _ => intro hs; cases hs
theorem wrapI64 {n : Int} (h0 : -9223372036854775808 ≤ n) (h1 : n < 9223372036854775808) : IntKind.i64.wrap n = n := by
 simp [IntKind.wrap,IntKind.bits,IntKind.signed]; omega
theorem backEm_ok {e e' : Env} {m sz : Nat} {q : SA} (hm : e.length = m) (hqo : q.ok m = true) (he : EWF e) (h : runE (backEm m sz q) e = some e') :
 ∃ (rws : List (List D)) (o : Env),q.val e = .sl rws ∧ (∀ r ∈ rws,∀ c ∈ r,D.WF c) ∧ e' = e ++ o ∧ o.length = 3 ∧ EWF o ∧ o[2]? = some (.int .i64 ((rws.length : Int) - 1)) ∧ (∀ r ∈ rws,r.length = sz) ∧ rws.length ≤ 140737488355328 := by
 have hvv : ∀ (e : Env) (x : Nat),SA.val e (.v x) = e.getD x dfl := fun _ _ => rfl
 have hvc : ∀ (e : Env) (d : D),SA.val e (.c d) = d := fun _ _ => rfl
 obtain ⟨rws,hq⟩ : ∃ rws,q.val e = .sl rws := by
  simp only [backEm,runE,List.map_cons,List.map_nil] at h
  split at h
  · rename_i o2 h2
    generalize q.val e = d at h2
    cases d with
    | sl rws => exact ⟨rws,rfl⟩
    | _ => simp [PO.eval] at h2
  · cases h
 have hwf : ∀ r ∈ rws,∀ c ∈ r,D.WF c := by
  have := EWF.map he (l := [q]) (by rw [hm]; simpa using hqo)
  have := this (q.val e) (by simp)
  rw [hq] at this
  cases this with
  | sl _ h => exact h
 refine ⟨rws,?_⟩
 simp only [backEm,runE,List.map_cons,List.map_nil,hq,hvv,hvc] at h
 have e1 : PO.eval .lenL [.sl rws] = some [.int .i64 rws.length] := rfl
 simp only [e1] at h
 have q1 : q.val (e ++ [.int .i64 rws.length]) = .sl rws := by rw [SA.val_ext _ (by rw [hm]; exact hqo)]; exact hq
 have v1 : (e ++ [D.int .i64 rws.length]).getD m dfl = .int .i64 rws.length := by rw [← hm]; simp
 simp only [q1,v1] at h
 split at h
 · rename_i o2 h2
   simp only [PO.eval] at h2
   split at h2
   · rename_i hc
     cases h2
     have q2 : q.val (e ++ [.int .i64 rws.length] ++ [.sl ((rws.take ((rws.length : Int)).toNat).drop (0 : Int).toNat)]) = .sl rws := by rw [SA.val_ext _ (by simp only [List.length_append,hm]; exact SA.ok_mono (by omega) hqo)]; exact q1
     simp only [q2] at h
     split at h
     · rename_i o3 h3
       simp only [PO.eval] at h3
       split at h3
       · rename_i hr
         cases h3
         have v2 : (e ++ [D.int .i64 rws.length] ++ [D.sl ((rws.take ((rws.length : Int)).toNat).drop (0 : Int).toNat)] ++ []).getD m dfl = .int .i64 rws.length := by rw [← hm]; simp
         simp only [v2] at h
         have e4 : PO.eval (.bin .sub false) [.int .i64 (rws.length : Int),.int .i64 1] = some [.int .i64 (IntKind.i64.wrap ((rws.length : Int) - 1))] := rfl
         simp only [e4] at h
         cases h
         have hw : IntKind.i64.wrap ((rws.length : Int) - 1) = (rws.length : Int) - 1 := Am.wrapI64 (by omega) (by omega)
         refine ⟨[.int .i64 rws.length,D.sl ((rws.take ((rws.length : Int)).toNat).drop (0 : Int).toNat),.int .i64 (IntKind.i64.wrap ((rws.length : Int) - 1))],hq,hwf,by simp,rfl,?_,by simp [hw],fun r hr' => ?_,by omega⟩
         · intro d hd
           simp only [List.mem_cons,List.not_mem_nil,or_false] at hd
           rcases hd with rfl | rfl | rfl
           · exact .int _ _
           · refine .sl _ fun r hr' c hc' => hwf r ?_ c hc'
             exact List.mem_of_mem_take (List.mem_of_mem_drop hr')
           · exact .int _ _
         · have := List.all_eq_true.1 hc.2.2.2 r hr'
           simpa using this
       · cases h3
     · cases h
   · cases h2
 · cases h
theorem backAt_some {gi : GI} {σ : SS} {g : Operand} {b sz : Nat} {q : SA} (h : backAt gi σ g = some (b,sz,q)) : ∃ (f : FuncId) (k : SB),sev gi.SG σ g = .clo f [] [.ptr b 0 0] ∧ backOf gi.backs f = some sz ∧ getB σ.H b = some k ∧ k.tl = [[.atm q]] ∧ sNil k.d = true := by
 unfold backAt at h
 split at h
 · rename_i f b0 hs
   split at h
   · rename_i sz0 k hf hk
     split at h
     · rename_i q0 ht
       split at h
       · rename_i hn
         simp only [Option.some.injEq,Prod.mk.injEq] at h
         obtain ⟨rfl,rfl,rfl⟩ := h
         exact ⟨f,k,hs,hf,hk,ht,hn⟩
       · cases h
     · cases h
   · cases h
 · cases h
theorem Sat.bare {e : Env} {σ : SS} {s : Sta} {h : Heap} {nx n : Nat} (hS : Sat e σ s) (hh : s.H = h) (hx : s.nx = nx) (hn : s.n = n) : Sat e { σ with tm := [] } (junkS h nx n) := by
 subst hh hx hn
 exact ⟨hS.wf,fun t => by cases t <;> rfl,hS.H,hS.sl,⟨hS.wk.n,hS.wk.nx,fun t => (by show Wk .junk ((getS [] t).inst e (lnOf e σ.H)); cases t <;> exact .junk _),hS.wk.H⟩⟩
theorem Sat.put {e : Env} {σ : SS} {s : Sta} (hS : Sat e σ s) (p : Nat) {v : SV} {x : AV} (hv : v.ok e.length = true) (hx : Wk x (v.inst e (lnOf e σ.H))) : Sat e { σ with tm := setS σ.tm p v } { s with tm := putT s.tm p x } := by
 refine ⟨hS.wf,fun t => ?_,hS.H,hS.sl,⟨hS.wk.n,hS.wk.nx,fun t => ?_,hS.wk.H⟩⟩
 · show (getS (setS σ.tm p v) t).ok _ = true
   rw [getS_set]
   split
   · exact hv
   · exact hS.tm t
 · show Wk (putT s.tm p x t) ((getS (setS σ.tm p v) t).inst e (lnOf e σ.H))
   rw [getS_set]
   unfold putT
   by_cases h : t = p
   · rw [if_pos h,if_pos h]; exact hx
   · rw [if_neg h,if_neg h]; exact hS.get t
theorem vars_okL {M : Nat} : ∀ (n m : Nat),m + n ≤ M → SV.okL M ((vars m n).map .atm) = true
 | 0,_,_ => rfl
 | n + 1,m,h => by
  simp only [vars,List.map_cons,SV.okL,Bool.and_eq_true]
  exact ⟨by simp [SV.ok]; omega,vars_okL n (m + 1) (by omega)⟩
end Am
