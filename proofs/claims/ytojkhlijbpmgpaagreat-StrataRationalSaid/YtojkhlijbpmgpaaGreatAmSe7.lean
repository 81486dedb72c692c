/- The abstract machine and its reader: lemmas. -/
import Derived.Test.YtojkhlijbpmgpaaGreatAmSe6
set_option linter.unusedSimpArgs false
set_option linter.unusedVariables false
set_option linter.unusedSectionVars false
namespace Am
open Go
variable {P : Program} {G : Glob}
section
variable {T : Tab} {SG : SGlob} {σ : SS} {e e' : Env} {s : Sta} {id : Nat}
theorem pick_inv {q a b : D} {o : List D} (h : PO.eval .pick [q,a,b] = some o) : ∃ t,q = .bool t ∧ o = [if t then a else b] := by
 cases q <;> simp [PO.eval] at h
 exact ⟨_,rfl,h.symm⟩
theorem un_inv {op : UnOp} {a : D} {o : List D} (h : PO.eval (.un op) [a] = some o) : ∃ c,aUn op a = some c ∧ o = [c] := by
 simp only [PO.eval] at h; exact one1_some h
theorem bin_inv {op : BinOp} {tb : Bool} {a b : D} {o : List D} (h : PO.eval (.bin op tb) [a,b] = some o) : ∃ c,aBin op a b = some c ∧ o = [c] ∧ (∀ x y,a = .bool x → b = .bool y → tb = true) := by
 have other : (∀ x y,a = .bool x → b = .bool y → False) → PO.eval (.bin op tb) [a,b] = one1 (aBin op a b) := by
  intro hne
  cases a <;> cases b <;> first | rfl | exact (hne _ _ rfl rfl).elim
 by_cases hb : ∃ x y,a = .bool x ∧ b = .bool y
 · obtain ⟨x,y,rfl,rfl⟩ := hb
   simp only [PO.eval] at h
   split at h
   · rename_i ht
     obtain ⟨c,hc,ho⟩ := one1_some h
     exact ⟨c,hc,ho,fun _ _ _ _ => ht⟩
   · simp at h
 · rw [other fun x y hx hy => hb ⟨x,y,hx,hy⟩] at h
   obtain ⟨c,hc,ho⟩ := one1_some h
   exact ⟨c,hc,ho,fun x y hx hy => absurd ⟨x,y,hx,hy⟩ hb⟩
theorem conv_inv {k : IntKind} {a : D} {o : List D} (h : PO.eval (.conv k) [a] = some o) : ∃ k' n,a = .int k' n ∧ o = [.int k (k.wrap n)] := by
 cases a <;> simp [PO.eval] at h
 exact ⟨_,_,rfl,h.symm⟩
theorem convS_inv {a : D} {o : List D} (h : PO.eval .convS [a] = some o) : ∃ l,a = .str l ∧ o = [.str l] := by
 cases a <;> simp [PO.eval] at h
 exact ⟨_,rfl,h.symm⟩
theorem lenS_inv {a : D} {o : List D} (h : PO.eval .lenS [a] = some o) : ∃ l,a = .str l ∧ o = [.int .i64 l.length] := by
 cases a <;> simp [PO.eval] at h
 exact ⟨_,rfl,h.symm⟩
theorem lenL_inv {a : D} {o : List D} (h : PO.eval .lenL [a] = some o) : ∃ l,a = .sl l ∧ o = [.int .i64 l.length] := by
 cases a <;> simp [PO.eval] at h
 exact ⟨_,rfl,h.symm⟩
theorem idxS_inv {a b : D} {o : List D} (h : PO.eval .idxS [a,b] = some o) : ∃ l k n c,a = .str l ∧ b = .int k n ∧ 0 ≤ n ∧ l[n.toNat]? = some c ∧ o = [.int .u8 c.toNat] := by
 cases a <;> cases b <;> simp only [PO.eval,reduceCtorEq] at h
 rename_i l k n
 split at h
 · rename_i hn
   split at h
   · rename_i c hc; exact ⟨l,k,n,c,rfl,rfl,hn,hc,(Option.some.inj h).symm⟩
   · simp at h
 · simp at h
theorem row_inv {sz : Nat} {a b : D} {o : List D} (h : PO.eval (.row sz) [a,b] = some o) : ∃ xs k n,a = .sl xs ∧ b = .int k n ∧ 0 ≤ n ∧ xs[n.toNat]? = some o ∧ o.length = sz := by
 cases a <;> cases b <;> simp only [PO.eval,reduceCtorEq] at h
 rename_i xs k n
 split at h
 · rename_i hn
   split at h
   · rename_i r hr
     split at h
     · rename_i hl; cases h; exact ⟨xs,k,n,rfl,rfl,hn,hr,hl⟩
     · simp at h
   · simp at h
 · simp at h
theorem subS_inv {a b c : D} {o : List D} (h : PO.eval .subS [a,b,c] = some o) : ∃ l k n k' n',a = .str l ∧ b = .int k n ∧ c = .int k' n' ∧ (0 ≤ n ∧ n ≤ n' ∧ n' ≤ l.length) ∧ o = [.str ((l.take n'.toNat).drop n.toNat)] := by
 cases a <;> cases b <;> cases c <;> simp only [PO.eval,reduceCtorEq] at h
 split at h
 · rename_i hc; exact ⟨_,_,_,_,_,rfl,rfl,rfl,hc,(Option.some.inj h).symm⟩
 · simp at h
theorem subL_inv {sz : Nat} {a b c : D} {o : List D} (h : PO.eval (.subL sz) [a,b,c] = some o) : ∃ xs k n k' n',a = .sl xs ∧ b = .int k n ∧ c = .int k' n' ∧ (0 ≤ n ∧ n ≤ n' ∧ n' ≤ xs.length ∧ xs.all (fun r => r.length == sz) = true) ∧ o = [.sl ((xs.take n'.toNat).drop n.toNat)] := by
 cases a <;> cases b <;> cases c <;> simp only [PO.eval,reduceCtorEq] at h
 split at h
 · rename_i hc; exact ⟨_,_,_,_,_,rfl,rfl,rfl,hc,(Option.some.inj h).symm⟩
 · simp at h
theorem app_inv {sz bt : Nat} {a b : D} {o : List D} (h : PO.eval (.app sz bt) [a,b] = some o) : ∃ xs ys,a = .sl xs ∧ b = .sl ys ∧ ((xs.length + ys.length) * bt ≤ 140737488355328 ∧ xs.length + ys.length ≤ 9223372036854775807 ∧ ys.all (fun r => r.length == sz) = true) ∧ o = [.sl (xs ++ ys)] := by
 cases a <;> cases b <;> simp only [PO.eval,reduceCtorEq] at h
 split at h
 · rename_i hc; exact ⟨_,_,rfl,rfl,hc,(Option.some.inj h).symm⟩
 · simp at h
theorem appS_inv {bt : Nat} {a b : D} {o : List D} (h : PO.eval (.appS bt) [a,b] = some o) : ∃ xs l,a = .sl xs ∧ b = .str l ∧ ((xs.length + l.length) * bt ≤ 140737488355328 ∧ xs.length + l.length ≤ 9223372036854775807) ∧ o = [.sl (xs ++ l.map fun c => [.int .u8 c.toNat])] := by
 cases a <;> cases b <;> simp only [PO.eval,reduceCtorEq] at h
 split at h
 · rename_i hc; exact ⟨_,_,rfl,rfl,hc,(Option.some.inj h).symm⟩
 · simp at h
theorem app1_inv {sz bt : Nat} {a : D} {o : List D} (h : PO.eval (.app1 sz bt) [a] = some o) : ∃ xs,a = .sl xs ∧ (xs ≠ [] ∧ xs.length * bt ≤ 140737488355328 ∧ xs.length ≤ 9223372036854775807 ∧ xs.all (fun r => r.length == sz) = true) ∧ o = [.sl xs] := by
 cases a <;> simp only [PO.eval,reduceCtorEq] at h
 split at h
 · rename_i hc; exact ⟨_,rfl,hc,(Option.some.inj h).symm⟩
 · simp at h
theorem room_inv {bt k : Nat} {a : D} {o : List D} (h : PO.eval (.room bt k) [a] = some o) : ∃ xs,a = .sl xs ∧ ((xs.length + k) * bt ≤ 140737488355328 ∧ xs.length + k ≤ 9223372036854775807) ∧ o = [] := by
 cases a <;> simp only [PO.eval,reduceCtorEq] at h
 split at h
 · rename_i hc; exact ⟨_,rfl,hc,(Option.some.inj h).symm⟩
 · simp at h
theorem mk_inv {sz n : Nat} {l : List D} {o : List D} (h : PO.eval (.mk sz n) l = some o) : l.length = n * sz ∧ o = [.sl (chunks sz n l)] := by
 have : PO.eval (.mk sz n) l = if l.length = n * sz then some [.sl (chunks sz n l)] else none := by
  unfold PO.eval; split <;> simp_all
 rw [this] at h
 split at h
 · rename_i hc; exact ⟨hc,(Option.some.inj h).symm⟩
 · simp at h
theorem cat_inv {a b : D} {o : List D} (h : PO.eval .cat [a,b] = some o) : ∃ xs ys,a = .sl xs ∧ b = .sl ys ∧ o = [.sl (xs ++ ys)] := by
 cases a <;> cases b <;> simp only [PO.eval,reduceCtorEq] at h
 exact ⟨_,_,rfl,rfl,(Option.some.inj h).symm⟩
theorem mkL_inv {bt : Nat} {z : List D} {a : D} {o : List D} (h : PO.eval (.mkL bt z) [a] = some o) : ∃ k n,a = .int k n ∧ (0 ≤ n ∧ (bt : Int) * n ≤ 281474976710656 ∧ n ≤ 9223372036854775807) ∧ o = [.sl (List.replicate n.toNat z)] := by
 cases a <;> simp only [PO.eval,reduceCtorEq] at h
 split at h
 · rename_i hc; exact ⟨_,_,rfl,hc,(Option.some.inj h).symm⟩
 · simp at h
theorem chk_inv {a b : D} {o : List D} (h : PO.eval .chk [a,b] = some o) : ∃ xs k n,a = .sl xs ∧ b = .int k n ∧ (0 ≤ n ∧ n < xs.length) ∧ o = [] := by
 cases a <;> cases b <;> simp only [PO.eval,reduceCtorEq] at h
 split at h
 · rename_i hc; exact ⟨_,_,_,rfl,rfl,hc,(Option.some.inj h).symm⟩
 · simp at h
theorem get_inv {j m : Nat} {a b : D} {o : List D} (h : PO.eval (.get j m) [a,b] = some o) : ∃ xs k n r,a = .sl xs ∧ b = .int k n ∧ 0 ≤ n ∧ xs[n.toNat]? = some r ∧ j + m ≤ r.length ∧ o = (r.drop j).take m := by
 cases a <;> cases b <;> simp only [PO.eval,reduceCtorEq] at h
 rename_i xs k n
 split at h
 · rename_i hn
   split at h
   · rename_i r hr
     split at h
     · rename_i hl; exact ⟨xs,k,n,r,rfl,rfl,hn,hr,hl,(Option.some.inj h).symm⟩
     · simp at h
   · simp at h
 · simp at h
theorem set_inv {j m : Nat} {a b : D} {cs : List D} {o : List D} (h : PO.eval (.set j m) (a :: b :: cs) = some o) : ∃ xs k n r,a = .sl xs ∧ b = .int k n ∧ 0 ≤ n ∧ xs[n.toNat]? = some r ∧ j + m ≤ r.length ∧ cs.length = m ∧ o = [.sl (xs.set n.toNat (setD r j cs))] := by
 cases a <;> cases b <;> simp only [PO.eval,reduceCtorEq] at h
 rename_i xs k n
 split at h
 · rename_i hn
   split at h
   · rename_i r hr
     split at h
     · rename_i hl; exact ⟨xs,k,n,r,rfl,rfl,hn,hr,hl.1,hl.2,(Option.some.inj h).symm⟩
     · simp at h
   · simp at h
 · simp at h
theorem min_inv {a b : D} {o : List D} (h : PO.eval .min [a,b] = some o) : ∃ k n k' n',a = .int k n ∧ b = .int k' n' ∧ o = [.int k (if n' < n then n' else n)] := by
 cases a <;> cases b <;> simp only [PO.eval,reduceCtorEq] at h
 exact ⟨_,_,_,_,rfl,rfl,(Option.some.inj h).symm⟩
theorem max_inv {a b : D} {o : List D} (h : PO.eval .max [a,b] = some o) : ∃ k n k' n',a = .int k n ∧ b = .int k' n' ∧ o = [.int k (if n' > n then n' else n)] := by
 cases a <;> cases b <;> simp only [PO.eval,reduceCtorEq] at h
 exact ⟨_,_,_,_,rfl,rfl,(Option.some.inj h).symm⟩
theorem sel_inv {k : Nat} {a : D} {cs : List D} {o : List D} (h : PO.eval (.sel k) (a :: cs) = some o) : ∃ kd n c,a = .int kd n ∧ (0 ≤ n ∧ n < k) ∧ cs[n.toNat]? = some c ∧ o = [c] := by
 cases a <;> simp only [PO.eval,reduceCtorEq] at h
 rename_i kd n
 split at h
 · rename_i hc
   obtain ⟨c,h1,h2⟩ := one1_some h
   exact ⟨kd,n,c,rfl,hc,h1,h2⟩
 · simp at h
theorem aBin_nraw {op : BinOp} {a b c : D} (h : aBin op a b = some c) : (∀ v,a ≠ .raw v) ∧ (∀ v,b ≠ .raw v) := by
 cases a <;> cases b <;> simp [aBin] at h <;> exact ⟨by simp,by simp⟩
theorem aUn_nraw {op : UnOp} {a c : D} (h : aUn op a = some c) : ∀ v,a ≠ .raw v := by
 cases a <;> simp [aUn] at h <;> simp
theorem wk_dn {a : AV} {x : D} (h : Wk a (.d x)) (hn : ∀ v,x ≠ .raw v) : a = .d x := by
 rcases wk_d h with h | ⟨f,_,hx⟩
 · exact h
 · exact absurd hx (hn _)
variable (hS : Sat e σ s) (hG : GOK G SG) (hT : TOK P T)
include hS hG
theorem ok_move {x : Operand} : ∃ res,UpdOK P G id (.move x) e e σ s { v := sev SG σ x } res := UpdOK.pure0 hS rfl (hev hS hG x)
theorem ok_assign {x : Operand} : ∃ res,UpdOK P G id (.assign x) e e σ s { v := sev SG σ x } res := UpdOK.pure0 hS rfl (hev hS hG x)
theorem ok_pick {c a b : Operand} {r : SR} (h : symOp T SG σ e.length id (.pick c a b) = some r) (hr : runE r.em e = some e') : ∃ res,UpdOK P G id (.pick c a b) e e' σ s r res := by
 have hc := hev hS hG c
 have ha := hev hS hG a
 have hb := hev hS hG b
 simp only [symOp] at h
 split at h
 · rename_i t hcc
   rw [hcc] at hc
   cases h
   obtain rfl := runE0 hr
   have := wk_bool hc
   refine UpdOK.pure0 hS (av := if t then evA G s.tm a else evA G s.tm b) (by simp only [execA,this]; rfl) ?_
   cases t
   · exact hb
   · exact ha
 · rename_i q hq hcc
   split at h
   · rename_i x y hx hy
     cases h
     obtain ⟨o,ho,rfl⟩ := runE1 hr
     simp only [List.map_cons,List.map_nil] at ho
     obtain ⟨t,ht,rfl⟩ := pick_inv ho
     rw [hcc] at hc; rw [hx] at ha; rw [hy] at hb
     simp only [SV.inst,ht] at hc
     refine UpdOK.pure hS (av := if t then evA G s.tm a else evA G s.tm b) (by simp only [execA,wk_bool hc]; rfl) ?_
     simp only [SV.inst,val_new]
     cases t
     · exact hb
     · exact ha
   · simp at h
 · simp at h
theorem ok_bin {op : BinOp} {t : TypeId} {x y : Operand} {ty : TypeId} {r : SR} (hT : TOK P T) (h : symOp T SG σ e.length id (.binOp op t x y ty) = some r) (hr : runE r.em e = some e') : ∃ res,UpdOK P G id (.binOp op t x y ty) e e' σ s r res := by
 have hx := hev hS hG x
 have hy := hev hS hG y
 simp only [symOp] at h
 split at h
 · rename_i tf p q htf hpx hqy
   cases h
   obtain ⟨o,ho,rfl⟩ := runE1 hr
   simp only [List.map_cons,List.map_nil] at ho
   obtain ⟨c,hc,rfl,hb⟩ := bin_inv ho
   rw [hpx] at hx; rw [hqy] at hy
   obtain ⟨n1,n2⟩ := aBin_nraw hc
   have h1 := wk_dn hx n1
   have h2 := wk_dn hy n2
   have htb := (hT _ _ htf).bool
   refine UpdOK.pure hS (av := .d c) ?_ (by simp only [SV.inst,val_new]; exact .refl _)
   simp only [execA,h1,h2]
   revert hc hb
   generalize p.val e = a
   generalize q.val e = b
   intro hc hb
   have key : ∀ a b,aBin op a b = some c → (∀ x y,a = .bool x → b = .bool y → tbool P t = true) → (match AV.d a,AV.d b with
    | .d (.bool a),.d (.bool b) => if tbool P t then pure1 (aBin op (.bool a) (.bool b)) else none
    | .d a,.d b => pure1 (aBin op a b)
    | _,_ => none) = some ({ v := .d c,hs := [],rb := [] } : Res) := by
    intro a b h hb
    cases a <;> cases b <;> first | (simp only [h,pure1,Option.map_some]; done) | (simp only [hb _ _ rfl rfl,if_true,h,pure1,Option.map_some])
   exact key a b hc fun x y hx hy => by rw [htb]; exact hb x y hx hy
 · simp at h
theorem ok_un {op : UnOp} {t : TypeId} {x : Operand} {r : SR} (h : symOp T SG σ e.length id (.unOp op t x) = some r) (hr : runE r.em e = some e') : ∃ res,UpdOK P G id (.unOp op t x) e e' σ s r res := by
 have hx := hev hS hG x
 simp only [symOp] at h
 split at h
 · rename_i p hp
   cases h
   obtain ⟨o,ho,rfl⟩ := runE1 hr
   simp only [List.map_cons,List.map_nil] at ho
   obtain ⟨c,hc,rfl⟩ := un_inv ho
   rw [hp] at hx
   have h1 := wk_dn hx (aUn_nraw hc)
   refine UpdOK.pure hS (av := .d c) (by simp only [execA,h1,hc,pure1,Option.map_some]) (by simp only [SV.inst,val_new]; exact .refl _)
 · simp at h
theorem ok_makeFunc {fn : Fn} {first caps : Array Operand} {r : SR} (h : symOp T SG σ e.length id (.makeFunc fn first caps) = some r) (hr : runE r.em e = some e') : ∃ res,UpdOK P G id (.makeFunc fn first caps) e e' σ s r res := by
 cases fn with
 | func f =>
  simp only [symOp] at h
  cases h
  obtain rfl := runE0 hr
  have h1 := wkL_map hS hG first.toList
  have h2 := wkL_map hS hG caps.toList
  exact UpdOK.pure0 hS rfl (.clo _ _ _ _ _ h1.1 h1.2 h2.1 h2.2)
 | _ => simp [symOp] at h
end
end Am
