/- After a crash the log has the records of the groups that are there and no others, with their numbers and data; the conditions are those of the given statement, for arguments that a machine can hold. Part 52 of 54. -/
import Derived.Test.YtconhghphklfjaaGreatL51
namespace Go.Proofs.YtconhghphklfjaaGreat.Am
open Go
theorem L4 : ∀(rs:List b9) (n K:Nat),(∀r∈rs,r.Ok)→∃bA cU j,rs=bA++cU∧(logB n rs).take K=logB n bA++j∧uF j:=by
 intro rs
 induction rs with
 | nil=>intro n K _; exact ⟨[],[],[],rfl,by simp [logB],.inl (by decide)⟩
 | cons r rs U =>
  intro n K I
  have hr:=I r List.mem_cons_self
  by_cases hK:r.len≤K
  ·obtain ⟨bA,cU,j,h1,h2,h3⟩:=U (n+r.len) (K-r.len) (fun x hx=>I x (List.mem_cons_of_mem _ hx))
   refine ⟨r::bA,cU,j,by rw [h1]; rfl,?_,h3⟩
   have J:(eW n r.bd).length=r.len:=by rw [mC]; rfl
   rw [logB,List.take_append,List.take_of_length_le (by omega),J,h2,logB,List.append_assoc]
  ·refine ⟨[],r::rs,(eW n r.bd).take K,rfl,?_,?_⟩
   ·have J:(eW n r.bd).length=r.len:=by rw [mC]; rfl
    show List.take K (eW n r.bd++logB (n+r.len) rs)=[]++_
    rw [List.take_append_of_le_length (by omega),List.nil_append]
   ·by_cases h8:K<8
    ·exact .inl (by rw [List.length_take]; omega)
    ·right
     have J:(eW n r.bd).length=r.len:=by rw [mC]; rfl
     have h4:((eW n r.bd).take K).take 4=le 4 r.bd.length:=by
      rw [List.take_take,Nat.min_eq_left (by omega),eW,List.append_assoc,List.take_append_of_le_length (by rw [cM]; omega),List.take_of_length_le (by rw [cM]; omega)]
     have hb:=hr.len
     have hlen:r.len=8+r.bd.length:=rfl
     rw [h4,pI,List.length_take,Nat.mod_eq_of_lt (by simp; omega)]
     omega
theorem Hi {δ:Dk}{c:List Nat}(h:δ.aT≤δ.log.length)(I:δ.tail=[]): j8 δ c=δ.log.take (δ.aT+gr δ c):=by
 rw [j8,I,List.append_nil,List.take_add]
structure Lv (δ:Dk): Prop where
 alive:δ.dead=false
 aJ:δ.aJ<0
theorem Lv.dR {δ:Dk}{n:Nat}(h:Lv δ): (δ.dR n).1=0∧Lv (δ.dR n).2:=by
 unfold Dk.dR
 split
 ·rename_i I
  unfold Dk.oJ
  rw [if_neg (by rw [h.alive]; decide),if_neg (by omega),if_neg (by have:=h.aJ; omega),j7 h.aJ]
  exact ⟨rfl,h.alive,h.aJ⟩
 ·exact ⟨rfl,h⟩
theorem Lv.ct {δ:Dk}(h:Lv δ): δ.ct.1=0∧Lv δ.ct.2:=by
 unfold Dk.ct
 rw [if_neg (by rw [h.alive]; decide),if_neg (by have:=h.aJ; omega),j7 h.aJ]
 exact ⟨rfl,h.alive,h.aJ⟩
theorem Lv.dw {δ:Dk}{n:Nat}(h:Lv δ): (δ.dw n).1=0∧Lv (δ.dw n).2:=by
 obtain ⟨J,I⟩:=h.dR (n:=n)
 unfold Dk.dw
 rw [if_neg (not_not_intro J)]
 split
 ·exact I.ct
 ·exact ⟨rfl,I⟩
theorem Lv.bF {δ:Dk}{n:Int}{b:List Nat}(h:Lv δ)(I:0≤n)(J:n<δ.aj.length)(U:b.length=512): (δ.bF n b).1=0∧Lv (δ.bF n b).2:=by
 unfold Dk.bF
 rw [if_neg (by rw [h.alive]; decide),if_neg (not_not_intro ⟨I,J,U⟩),if_neg (by have:=h.aJ; omega)]
 refine ⟨rfl,h.alive,?_⟩
 show δ.cO.aJ<0
 rw [j7 h.aJ]; exact h.aJ
theorem Lv.again {ρ:fL}(J:ρ.Ok): ∀ {l:List Int} {δ:Dk},(∀k∈l,0≤k)→Lv δ→(againW ρ l δ).1=0∧Lv (againW ρ l δ).2:=by
 intro l
 induction l with
 | nil=>intro δ _ h; exact ⟨rfl,h⟩
 | cons k l U =>
  intro δ hl h
  have I:∀k∈l,0≤k:=fun x hx=>hl x (List.mem_cons_of_mem _ hx)
  rw [againW]
  cases hq:lookL k ρ.aj with
  | none=>exact U I h
  | some b =>
   simp only
   split
   ·rename_i hg
    have hb:b.length=512:=J.len _ (fc hq)
    obtain ⟨w1,w2⟩:=h.bF (n:=k) (b:=cj b (lF ρ k)) (hl k List.mem_cons_self) hg.2 (r_ hb).2.1
    rw [if_neg (not_not_intro w1)]
    exact U I w2
   ·exact U I h
theorem Lv.lD {δ:Dk}(h:Lv δ): δ.lD.1=0∧Lv δ.lD.2:=by
 rw [Dk.lD,if_neg (by rw [h.alive]; decide),if_neg (by have:=h.aJ; omega),j7 h.aJ]
 exact ⟨rfl,h.alive,h.aJ⟩
theorem Lv.kg {δ:Dk}{base:Nat}{rs bA cU:List b9}(h:Lv δ)(J:∀r∈cU,r.Ok): (kg δ base rs bA cU).1=0∧Lv (kg δ base rs bA cU).2:=by
 have I:(redoL (base+szB bA) cU fL.none).Ok:=A_ w9 J
 obtain ⟨o1,o2⟩:=h.dw (n:=szB rs)
 unfold Am.kg jA
 rw [if_neg (not_not_intro o1)]
 obtain ⟨a1,U⟩:=Lv.again I (l:=ck (redoL (base+szB bA) cU fL.none).aj) (fun k hk=>(I.low k (uI.1 hk)).1) o2
 rw [if_neg (not_not_intro a1)]
 split
 ·exact ⟨rfl,U⟩
 ·exact U.lD
theorem LR.cr {base aK:Nat}{mk:List Nat}{rs:List b9}{x:LD}(h:LR base aK mk rs x)(I:x.2.Ok)(hw:x.2.waiting.length≤268435456)(hm:mk.length≤64): x.2.Cr :=
 ⟨I,h.wait,hw,(fun w J=>by rw [h.gQ] at J; cases J),(by rw [h.tail]; have:=I.len; simpa using this),(by rw [h.mark]; exact hm)⟩
theorem Jq {δ:Dk}{c:List Nat}: Lv (ia δ c):=⟨rfl,by show (-1:Int)<0; decide⟩
theorem L5 {P:List (Option (List Nat))}{i:Nat}{x:List Nat}(h:∀(j:Nat) (b:List Nat),P[j]?=some (some b)→b.length=512)(J:x.length=512): ∀(j:Nat) (b:List Nat),(P.set i (some x))[j]?=some (some b)→b.length=512:=fun j b I=>by
 rw [List.getElem?_set] at I
 split at I
 ·split at I
  ·injection I with I; injection I with I; rw [←I]; exact J
  ·cases I
 ·exact h j b I
theorem Jr {δ:Dk}{c:List Nat}(h:δ.Cr): kr (ia δ c) 65536∧(ia δ c).aj.length=δ.aj.length:=by
 have hl:=h.ok.len
 have hr:=h.ok.room
 have hc:=h.ok.aT
 have hlen:(ia δ c).aj.length=δ.aj.length:=by
  show (tornP c _ _ δ.gQ).length=_
  cases δ.gQ with
  | none=>exact td
  | some w=>rw [tornP,List.length_set,td]
 have J:=C6 (c:=c) (i:=0) (fun w hw=>(h.wait w hw).2) h.ok.aj
 have U:∀(j:Nat) (b:List Nat),(ia δ c).aj[j]?=some (some b)→b.length=512:=by
  show ∀(j:Nat) (b:List Nat),(tornP c _ _ δ.gQ)[j]?=some (some b)→b.length=512
  cases ht:δ.gQ with
  | none=>exact J
  | some w =>
   have hw:=(h.gQ w ht).2
   refine L5 J ?_
   have I:((layW c 0 δ.waiting δ.aj).getD w.1 none).getD []=[]∨(((layW c 0 δ.waiting δ.aj).getD w.1 none).getD []).length=512:=by
    rw [List.getD_eq_getElem?_getD]
    cases hq:(layW c 0 δ.waiting δ.aj)[w.1]? with
    | none=>exact .inl rfl
    | some o =>
     cases o with
     | none=>exact .inl rfl
     | some b=>exact .inr (J _ _ hq)
   have h2:(cI (List.replicate 512 0) 0 (((layW c 0 δ.waiting δ.aj).getD w.1 none).getD [])).length=512:=by
    rw [fO (by rw [List.length_replicate]; rcases I with I | I <;> rw [I] <;> decide),List.length_replicate]
   rw [fO (by rw [h2,List.length_take]; omega),h2]
 refine ⟨⟨⟨by show (-1:Int)<_; decide,?_,hr,fun e he=>(by cases he),U,Nat.le_refl _,by rw [hlen]; exact h.ok.many⟩,by show 0+65536≤_; decide,fun e he=>(by cases he)⟩,hlen⟩
 show (j8 δ c).length≤_
 have ht:=h.tail
 rw [j8,List.length_append,List.length_take,List.length_take,List.length_append,List.length_drop]
 omega
theorem EF {base aK:Nat}{mk:List Nat}{rs:List b9}{x:LD}{c:List Nat}(h:LR base aK mk rs x)(I:x.2.Ok): ∃bA cU j,rs=bA++cU∧(ia x.2 c).log=logB base bA++j∧uF j∧(ia x.2 c).log.length≤x.2.log.length:=by
 have e:(ia x.2 c).log=x.2.log.take (x.2.aT+gr x.2 c):=Hi I.aT h.tail
 obtain ⟨bA,cU,j,J,U,h3⟩:=L4 rs base (x.2.aT+gr x.2 c) h.rs
 exact ⟨bA,cU,j,J,by rw [e,h.log]; exact U,h3,by rw [e,List.length_take]; omega⟩
end Go.Proofs.YtconhghphklfjaaGreat.Am
namespace Go.Proofs.YtconhghphklfjaaGreat.Am
open Go
theorem Sat.Hj {P:Program}{h:H}{S:List ah}{k j:Nat}{v:V}{cs:List V}{t e:TypeId}{i:Nat}(s:Sat h S)(hj:getA S j=some (gd k v cs))(hi:i*k+k≤cs.length)(hk:1≤k)(hu:P.underlying t=some (.slice e))(I:aY P e=some k)(ha:bx P e=some true):
  ∃id off,indexAddrV P t v (.int .i64 (i:Int))=some (.ptr id off)∧loadV P h e (.ptr id off)=some (.agg ((cs.drop (i*k)).take k))∧∀m c t',((cs.drop (i*k)).take k)[m]?=some c→bx P t'=some false→loadV P h t' (.ptr id (off+m))=some c:=by
 rcases s.rowAt hj with ⟨_,rfl⟩ | ⟨id,len,cap,rfl,hl,U⟩
 ·simp at hi; omega
 ·refine ⟨id,i*k,?_,J9 ha I U rfl hi,fun m c t' J ht=>FL ht U ?_⟩
  ·simp only [indexAddrV,hu,I,Int.toNat_natCast]
   have:i<len:=by
    have h4:i*k+k=(i+1)*k:=by rw [Nat.add_mul,Nat.one_mul]
    rw [h4,hl] at hi
    exact Nat.lt_of_succ_le (Nat.le_of_mul_le_mul_right hi hk)
   rw [show (decide ((0:Int)≤(i:Int))&&decide ((i:Int)<(len:Int)))=true by simp; omega,cond_true]
   simp
  ·rw [List.getElem?_take] at J
   split at J
   ·rw [List.getElem?_drop] at J; rw [dG]; exact J
   ·cases J
theorem Sat.Oq {P:Program}{h:H}{S:List ah}{k j:Nat}{v:V}{cs:List V}{t e:TypeId}{i:Nat}(s:Sat h S)(U:getA S j=some (.arr k v cs))(hi:i*k+k≤cs.length)(hk:1≤k)(hu:P.underlying t=some (.slice e))(J:aY P e=some k):
  ∃id off,indexAddrV P t v (.int .i64 (i:Int))=some (.ptr id off)∧∀m c t',((cs.drop (i*k)).take k)[m]?=some c→bx P t'=some false→loadV P h t' (.ptr id (off+m))=some c:=by
 obtain ⟨m,r,h1,h2,h3⟩:=s.at U
 rcases h3.2 with ⟨_,rfl⟩ | ⟨id,n,cap,N,rest,rfl,hg,e1,e2,_⟩
 ·simp at hi; omega
 ·refine ⟨id,i*k,?_,fun m c t' I ht=>FL ht (h1 _ _ hg) ?_⟩
  ·simp only [indexAddrV,hu,J,Int.toNat_natCast]
   have:i<n:=by
    have h4:i*k+k=(i+1)*k:=by rw [Nat.add_mul,Nat.one_mul]
    rw [h4,e1] at hi
    exact Nat.lt_of_succ_le (Nat.le_of_mul_le_mul_right hi hk)
   rw [show (decide ((0:Int)≤(i:Int))&&decide ((i:Int)<(n:Int)))=true by simp; omega,cond_true]
   simp
  ·rw [List.getElem?_take] at I
   split at I
   ·rw [List.getElem?_drop] at I
    rw [dG,List.getElem?_append_left (List.getElem?_eq_some_iff.1 I).1]; exact I
   ·cases I
def lY : List V→List b9→ah
 | [],[]=>.pu True
 | a::b::_::_::e::_::l,r::m=>.an (.an (.pu (a=.int .i64 (r.kd:Int)∧b=.int .u64 (r.tx:Int))) (.bp e r.data)) (lY l m)
 | _,_=>.pu False
theorem aq.rec : ∀(m:List b9) (l:List V),aq (lY l m):=by
 intro m
 induction m with
 | nil=>intro l; rcases l with _ | ⟨a,_ | ⟨b,_ | ⟨c,_ | ⟨d,_ | ⟨e,_ | ⟨f,l⟩⟩⟩⟩⟩⟩ <;> exact aq.pu _
 | cons x m I=>intro l; rcases l with _ | ⟨a,_ | ⟨b,_ | ⟨c,_ | ⟨d,_ | ⟨e,_ | ⟨f,l⟩⟩⟩⟩⟩⟩ <;> first | exact aq.pu _ | exact aq.an (aq.an (aq.pu _) (aq.bp _ _)) (I l)
theorem Bc {a b:PM}: ∀ {m:List b9} {l:List V},(lY l m).p a b→l.length=m.length*6:=by
 intro m
 induction m with
 | nil=>intro l h; rcases l with _ | ⟨a,_ | ⟨b,_ | ⟨c,_ | ⟨d,_ | ⟨e,_ | ⟨f,l⟩⟩⟩⟩⟩⟩ <;> first | rfl | exact h.elim
 | cons x m I =>
  intro l h
  rcases l with _ | ⟨a,_ | ⟨b,_ | ⟨c,_ | ⟨d,_ | ⟨e,_ | ⟨f,l⟩⟩⟩⟩⟩⟩ <;> first | exact h.elim | skip
  have:=I h.2
  simp only [List.length_cons]
  omega
theorem Js {a b:PM}{kd:Int}{x:b9}{dv f c d tx:V}(I:kd=(x.kd:Int))(J:tx=.int .u64 (x.tx:Int))(U:(ah.bp dv x.data).p a b): ∀ {m:List b9} {l:List V},(lY l m).p a b→(lY (l++[.int .i64 kd,tx,c,d,dv,f]) (m++[x])).p a b:=by
 intro m
 induction m with
 | nil=>intro l h; rcases l with _ | ⟨a,_ | ⟨b,_ | ⟨c,_ | ⟨d,_ | ⟨e,_ | ⟨f,l⟩⟩⟩⟩⟩⟩ <;> first | exact ⟨⟨⟨by rw [I],J⟩,U⟩,trivial⟩ | exact h.elim
 | cons y m ih =>
  intro l h
  rcases l with _ | ⟨a,_ | ⟨b,_ | ⟨c,_ | ⟨d,_ | ⟨e,_ | ⟨f,l⟩⟩⟩⟩⟩⟩ <;> first | exact h.elim | exact ⟨h.1,ih h.2⟩
theorem Bd {a b:PM}: ∀ {m:List b9} {l:List V} {i:Nat} {x:b9},(lY l m).p a b→m[i]?=some x→∃c d e f,(l.drop (i*6)).take 6=[.int .i64 (x.kd:Int),.int .u64 (x.tx:Int),c,d,e,f]∧(ah.bp e x.data).p a b:=by
 intro m
 induction m with
 | nil=>intro l i x h I; simp at I
 | cons y m J =>
  intro l i x h I
  rcases l with _ | ⟨p,_ | ⟨q,_ | ⟨w,_ | ⟨v,_ | ⟨e,_ | ⟨f,l⟩⟩⟩⟩⟩⟩ <;> first | exact h.elim | skip
  obtain ⟨⟨⟨U,h2⟩,h4⟩,h5⟩:=h
  cases i with
  | zero=>simp at I; subst I; exact ⟨w,v,e,f,by rw [U,h2]; rfl,h4⟩
  | succ i =>
   simp at I
   obtain ⟨c,d,e',f',e1,e2⟩:=J h5 I
   refine ⟨c,d,e',f',?_,e2⟩
   rw [←e1,show (i+1)*6=i*6+6 by omega]
   rfl
theorem Ot {h:H}{S:List ah}{cs:List V}{m:List b9}{i:Nat}{x:b9}(s:Sat h (lY cs m::S))(U:m[i]?=some x):
  ∃c d e f,(cs.drop (i*6)).take 6=[.int .i64 (x.kd:Int),.int .u64 (x.tx:Int),c,d,e,f]∧Sat h (.bp e x.data::lY cs m::S):=by
 obtain ⟨a,b,q1,q2,q3⟩:=s.at (k:=0) rfl
 obtain ⟨c,d,e,f,e1,e2⟩:=Bd q3 U
 refine ⟨c,d,e,f,e1,(s.dup (aq.rec _ _)).dY (B:=.bp e x.data) fun a b h => ?_⟩
 obtain ⟨c',d',e',f',I,J⟩:=Bd h U
 rw [e1] at I
 injection I with _ I
 injection I with _ I
 injection I with _ I
 injection I with _ I
 injection I with he _
 subst he
 exact J
def yo (l:List Nat): List V:=l.map fun (n:Nat)=>V.int .u64 (n:Int)
theorem Jt : ∃i,Tryz.prog.info? 35=some i∧i.size=1∧i.bytes=8 :=
 ⟨_,(show Tryz.prog.info? 35=some ((Tryz.prog.info? 35).getD default) by kernel_rfl),by kernel_rfl,by kernel_rfl⟩
theorem Ju : ∃i,Tryz.prog.info? 40=some i∧i.size=6∧i.bytes=80 :=
 ⟨_,(show Tryz.prog.info? 40=some ((Tryz.prog.info? 40).getD default) by kernel_rfl),by kernel_rfl,by kernel_rfl⟩
section
variable {told:Nat→Option (List V→H→Option (V×H))} {h:H} {S:List ah} {X:ah} {r q p a:Nat} {lv cv:V} {L:List ik} {cs:List V} {c:List Nat}
noncomputable def UT : Code:=cn [1,1,1,1,1,1,1,1,0,1,0,0] ((Tryz.f6.body).getD .skip)
theorem Hl (hT:W4 told)(hL:L.length≤200)(hD:∀D∈L,D.data.length≤1048576∧D.w.length≤1048576∧∀x∈D.w,x.2.length≤1048576): ∀(j i:Nat) (ε:aM) (ps:List (List Nat)) (rs:List b9) (pv tv rv:V) (I:List V) (h:H) (E:List (Nat×V)) (Q:Ex→List (Nat×V)→H→Prop),i+j=L.length→EI 12 (1+2*i) ε→ps.length=12→oc ε ps→LR 1 0 [] rs ε.2→(∀r∈rs,r.kd≤7)→rs.length≤i →
  Sat h (cz a p q r .bI [] 0::cB r p q ε.1::bj q p ε.2.1::az p ε.2.2::.arr 1 pv (d_ ps)::.arr 1 tv (yo (fF 1 rs))::.arr 6 rv I::lY I rs::gd 4 lv cs::fZ cs L::S) →
  Has E [(0,lv),(1,cv),(5,.ptr p 0),(6,.ptr a 0),(7,pv),(8,rv),(9,tv),(10,.int .i64 (i:Int))] →
  (∀ε' ua J Da Ho Hp Jv E' h',EI 12 401 ε'→LR 1 0 [] J ε'.2→(∀r∈J,r.kd≤7)→J.length≤200→Has E' [(1,cv),(5,.ptr p 0),(8,Hp),(9,Ho)] →
   Sat h' (cz a p q r .bI [] 0::cB r p q ε'.1::bj q p ε'.2.1::az p ε'.2.2::.arr 1 Da (d_ ua)::.arr 1 Ho (yo (fF 1 J))::.arr 6 Hp Jv::lY Jv J::gd 4 lv cs::fZ cs L::S)→Q (.exit 0) E' h') →
  WP ⟨Tryz.prog,told⟩ 176 (.loop UT) E h Q:=by
 have hW:=hT.w.w.w
 intro j
 induction j with
 | zero =>
  intro i ε ps rs pv tv rv I h E Q hi kO hN hp hl hk hr s hE U
  have hlen:=sn s (k:=9) rfl
  refine WP.loop (WP.has hE (zw (zg rfl (zm rfl (zm rfl (zo rfl (aL rfl rfl rfl (s.sj (n:=L.length) (j:=8) rfl hlen (by decide) Tryz.underlying56)) ?_))))))
  refine ae.aE rfl rfl rfl (af rfl rfl aX) (by simp <;> omega) ?_
  refine zv (zj rfl (WP.exit ?_))
  exact U ε ps rs _ _ _ _ _ _ (kO.more (by omega)) hl hk (by omega) ⟨rfl,rfl,rfl,rfl,trivial⟩ s
 | succ j ih =>
  intro i ε ps rs pv tv rv I h E Q hi kO hN hp hl hk hr s hE U
  have hlen:=sn s (k:=9) rfl
  have yc:L[i]?=some (L[i]'(by omega)):=List.getElem?_eq_getElem _
  generalize (L[i]'(by omega))=D at yc
  have UU:=hD D (List.mem_of_getElem? yc)
  obtain ⟨wv,dv,c1,s⟩:=L0 (s.aa [9]) yc
  dsimp only [ai,bringA] at s
  have s:=(s.dup (aq.kf _ _ _)).dY (B:=.bp dv D.data) (fun _ _ h=>h.2)
  have s:=s.aa [3,3,3,3,3,1,5,1,0]
  dsimp only [bringA,getA,ai] at s
  obtain ⟨id,off,g1,g2,g3⟩:=s.Hj (P:=Tryz.prog) (i:=i) (j:=6) rfl (by omega) (by decide) Tryz.underlying56 Nk Nl
  rw [c1] at g2 g3
  refine WP.loop (WP.has hE (zw (zg rfl (zm rfl (zm rfl (zo rfl (aL rfl rfl rfl (s.sj (n:=L.length) (j:=6) rfl hlen (by decide) Tryz.underlying56)) ?_))))))
  refine ae.aR rfl rfl rfl (af rfl rfl aX) (by simp <;> omega) ?_
  refine zv (zi rfl (WP.skip (zw (WP.block (zw (zg rfl (zm rfl (zm rfl (zo rfl (cH (r:=.ptr id off) rfl rfl g1) (zf rfl (z6 _ _) (zl rfl (g3 0 _ _ rfl cq) ?_)))))))))))
  by_cases h2:2<D.act
  ·skip
   refine ae.aR rfl rfl rfl (af rfl rfl dS) (by simp; exact h2) ?_
   refine zv (zi rfl (WP.exit (zr rfl (zm rfl (zb rfl (by exact bl (aF (by omega) (by omega))) ?_)))))
   refine za rfl (zv ?_)
   exact ih (i+1) ε ps rs _ _ _ _ _ _ Q (by omega) (kO.more (by omega)) hN hp hl hk (by omega) ((s.aa [0,0,0,0,0,4,4,4,1,1]).del 10 |>.del 10) ⟨rfl,rfl,rfl,rfl,rfl,rfl,rfl,rfl,trivial⟩ U
  ·skip
   refine ae.aE rfl rfl rfl (af rfl rfl dS) (by simp; omega) ?_
   refine zv (zj rfl (WP.skip (zg rfl (zm rfl (zm rfl (zm rfl (zm rfl (zo rfl (cH (r:=.ptr id off) rfl rfl g1) (zl rfl g2 (ae.call rfl rfl rfl rfl rfl rfl rfl (Jp hW (D:=D) (by omega) (B:=1+2*i) (by omega) kO hN hp UU s) ?_))))))))))
   rintro v h ⟨e,ua,Da,aD,ε',ho,i1,i2,i3,rfl,s⟩
   refine zm rfl (ze rfl (ze rfl (ze rfl (ze rfl (za rfl (za rfl (za rfl (za rfl (zv (zw (zg rfl (zm rfl (ae.aE rfl rfl rfl (dA rfl rfl) (rfl) (zv (zj rfl (WP.skip (zg rfl (zm rfl (za rfl (zv (zg rfl ?_)))))))))))))))))))))
   refine zm rfl ?_
   rcases ho.lr hl with ⟨rfl,qH⟩ | ⟨r0,k1,k2,k3,k4,k5,rfl,qH⟩
   ·skip
    refine ae.aE rfl rfl rfl (af rfl rfl dS) (by decide) ?_
    refine zv (zj rfl (WP.skip (zr rfl (zm rfl (zb rfl (by exact bl (aF (by omega) (by omega))) ?_)))))
    refine za rfl (zv ?_)
    exact ih (i+1) ε' ua rs _ _ _ _ _ _ Q (by omega) (i1.more (by omega)) i2 i3 qH hk (by omega) ((s.aa [0,0,0,0,0,3,3,3,0,0]).del 10) ⟨rfl,rfl,rfl,rfl,rfl,rfl,rfl,rfl,trivial⟩ U
   ·have yn:=w_ (k:=D.bX)
    have Av:=xb (k:=D.bX)
    have GD:∀x∈rs++[r0],x.kd≤7:=fun x U=>by
     rcases List.mem_append.1 U with U | U
     ·exact hk x U
     ·rw [List.mem_singleton.1 U]; omega
    have xT:I.length=rs.length*6:=by
     obtain ⟨_,_,_,_,q⟩:=s.at (k:=10) rfl
     exact Bc q
    refine ae.aR rfl rfl rfl (af rfl rfl dS) (by simp; omega) ?_
    have s:=s.aa [8]
    dsimp only [bringA,getA,ai] at s
    refine zv (zi rfl (zg rfl (zm rfl (zm rfl ?_))))
    obtain ⟨Ww,js,iI,pq⟩:=Jt
    obtain ⟨iv,h1,e1,s1⟩:=jG (P:=Tryz.prog) (k:=1) (x:=.int .u64 ((1+szB rs:Nat):Int)) s Tryz.underlying66 DO mG rfl (by decide) (by decide) rfl rfl
    dsimp only [V.cells] at s1
    refine ae.any rfl rfl rfl (OpR.of (R:=fun v h'=>v=iv∧h'=h1) (mD rfl e1) ⟨rfl,rfl⟩) ?_
    rintro v h' ⟨rfl,rfl⟩
    obtain ⟨Ho,h2,e2,s2⟩:=fP (s1.aa [1,0]) Tryz.underlying66 js DO iI (by omega) rfl (by decide) (by simp only [yo,List.length_map,qB,List.length_cons,List.length_nil]; omega)
    dsimp only [ai,bringA] at s2
    refine ae.any rfl rfl rfl (OpR.of (R:=fun v h'=>v=Ho∧h'=h2) (j_ rfl rfl e2) ⟨rfl,rfl⟩) ?_
    rintro v h' ⟨rfl,rfl⟩
    have s:=(s2.del 1)
    dsimp only [ai] at s
    obtain ⟨id,off,g1,g2,g3⟩:=s.Hj (P:=Tryz.prog) (i:=i) (j:=6) rfl (by omega) (by decide) Tryz.underlying56 Nk Nl
    rw [c1] at g2 g3
    have hv:=s.ax (k:=8) rfl (bN _ _)
    have UW:=s.gx (j:=9) rfl
    refine za rfl (zv ?_)
    have s0:=s
    refine WP.drawn [some (0,2),none,none,none,none,none,none,none,none,none,none,none,none,none,none,none,none,none,none,none,none,none,none,none] rfl (by kernel_rfl) (by kernel_rfl) ?_
    refine zM rfl (zM rfl (zM rfl (zO rfl (cH (r:=.ptr id off) rfl rfl g1) (zF rfl (vr _ _) (zL rfl (g3 1 _ _ rfl cq) (zO rfl (af rfl rfl (qC (m:=3) (by decide))) ?_))))))
    refine zO rfl (af (r:=.int .i64 (je D.bX:Int)) rfl rfl (by rw [show ((je D.bX:Nat):Int)=1+((Nat.land ((D.bX%(2^(IntKind.i64).bits:Int)).toNat) 3:Nat):Int) by unfold je; omega]; exact bl (aF (by unfold je at yn; omega) (by unfold je at yn; omega)))) ?_
    refine zM rfl (zM rfl (zO rfl (cH (r:=.ptr id off) rfl rfl g1) (zF rfl (vr _ _) (zL rfl (g3 1 _ _ rfl cq) (zO rfl (af rfl rfl (qC (m:=255) (by decide))) ?_)))))
    refine au.op rfl rfl rfl (by simp only [isEff,Tryz.underlying35]) (bz (r:=.int .u64 (oS D.bX:Int)) rfl (gC Tryz.underlying3 Tryz.underlying35 (dM (by omega) (by unfold oS at Av; omega)))) ?_
    refine zM rfl (zM rfl (zO rfl (cH (r:=.ptr id off) rfl rfl g1) (zF rfl (FX _ _) (zL rfl (g3 3 _ _ rfl bg) (zO rfl (bW rfl (yf hv)) ?_)))))
    obtain ⟨Wx,PT,EJ,Wy⟩:=Ju
    obtain ⟨jv,h3,e3,s3⟩:=jG (P:=Tryz.prog) (k:=6) (x:=.agg (eC (je D.bX) (oS D.bX) 0 0 dv .aH)) s Tryz.underlying65 jP dK rfl (by decide) (by decide) rfl (h_ hv.cells.2 rfl)
    dsimp only [V.cells] at s3
    refine au.any rfl rfl rfl rfl (OpR.of (R:=fun v h'=>v=jv∧h'=h3) (mD rfl e3) ⟨rfl,rfl⟩) ?_
    rintro v3 h' ⟨rfl,rfl⟩
    obtain ⟨Hp,h4,e4,s4⟩:=fP (s3.aa [10,0]) Tryz.underlying65 PT jP EJ (by omega) rfl (by decide) (by rw [xT]; show _+6≤_; omega)
    dsimp only [ai,bringA] at s4
    refine au.any rfl rfl rfl rfl (OpR.of (R:=fun v h'=>v=Hp∧h'=h4) (j_ rfl rfl e4) ⟨rfl,rfl⟩) ?_
    rintro v4 h' ⟨rfl,rfl⟩
    have s:=s4.del 1
    dsimp only [ai] at s
    refine zA rfl ?_
    refine au.nil ⟨⟨fun _ _=>.inr ⟨rfl,⟨_,aV rfl⟩,UW.2.2⟩,trivial,trivial,trivial,trivial,trivial,trivial,trivial,trivial,trivial,trivial,trivial,trivial,trivial,trivial,trivial,trivial,trivial,trivial,trivial,trivial,trivial,trivial,trivial,trivial⟩,?_⟩
    refine zr rfl (zm rfl (zb rfl (by exact bl (aF (by omega) (by omega))) ?_))
    refine za rfl (zv ?_)
    have s:=(s.aa [9,9]).two (C:=lY (I++[.int .i64 (je D.bX:Int),.int .u64 (oS D.bX:Int),.int .u64 0,.int .u64 0,dv,.aH]) (rs++[r0])) (aq.bp _ _) (aq.rec _ _) fun a b q1 q2=>Js (by rw [k1]) (by rw [k2]) (by rw [k5]; exact q1) q2
    dsimp only [ai,bringA] at s
    have e5:yo (fF 1 (rs++[r0]))=yo (fF 1 rs)++[.int .u64 ((1+szB rs:Nat):Int)]:=by rw [qA]; simp [yo,fF]
    exact ih (i+1) ε' ua (rs++[r0]) _ _ _ _ _ _ Q (by omega) (i1.more (by omega)) i2 i3 qH GD (by simp; omega) (by rw [e5]; exact s.aa [3,3,3,3,3,2,1,0,0,0]) ⟨rfl,rfl,rfl,rfl,rfl,rfl,rfl,rfl,trivial⟩ U
noncomputable def UX : Code:=cn [1,1,1,1,1,1,1,1,1,1,1,1,0,1,0,0] ((Tryz.f6.body).getD .skip)
theorem Hq (hT:W4 told){rs bA cU:List b9}{tv rv:V}{J:List V}(U:rs=bA++cU)(hr:∀r∈rs,r.Ok)(hk:∀r∈rs,r.kd≤7)(tq:(fy 1 0 bA).Ok)(hlen:rs.length≤200): ∀(B A:List b9) (h:H) (E:List (Nat×V)) (Q:Ex→List (Nat×V)→H→Prop),bA=A++B →
  Sat h (cz a p q r .bI [] 0::bj q p (fy 1 0 bA)::.arr 1 tv (yo (fF 1 rs))::.arr 6 rv J::lY J rs::S) →
  Has E [(8,rv),(9,tv),(15,.ptr a 0),(17,.int .i64 A.length),(18,.int .u64 ((1+szB A:Nat):Int))]→(∀E' h',Q (.exit 2) E' h') →
  WP ⟨Tryz.prog,told⟩ 176 (.loop UX) E h Q:=by
 have hW:=hT.w.w.w
 have ee:=tq.size
 intro B
 induction B with
 | nil =>
  intro A h E Q hA s hE hx
  refine WP.loop (WP.has hE (zw (zg rfl (zm rfl (zm rfl (ae.call rfl rfl rfl rfl rfl rfl rfl (sY hW s) ?_))))))
  rintro v h' ⟨rfl,rfl⟩
  refine ae.call rfl rfl rfl rfl rfl rfl rfl (nq hW (s.aa [1]) ee) ?_
  rintro v h' ⟨rfl,rfl⟩
  have e:(fy 1 0 bA).b.length=szB A:=by show (logB 1 bA).length=_; rw [gT,hA,List.append_nil]
  have e1:(fy 1 0 bA).base=1:=rfl
  refine ae.aE rfl rfl rfl (af rfl rfl aX) (by rw [e,e1]; simp) ?_
  refine zv (zj rfl (WP.exit ?_))
  exact hx _ _
 | cons y B ih =>
  intro A h E Q hA s hE hx
  have I:rs[A.length]?=some y:=by rw [U,hA]; simp
  have Rc:=List.mem_of_getElem? I
  have hy:=hr y Rc
  have Wz:=(List.getElem?_eq_some_iff.1 I).1
  have kx:J.length=rs.length*6:=by
   obtain ⟨_,_,_,_,q⟩:=s.at (k:=4) rfl
   exact Bc q
  have VM:szB A+y.len≤szB bA:=by rw [hA,tf]; simp only [szB]; omega
  have WA:8≤y.len:=by rw [b9.len]; omega
  refine WP.loop (WP.has hE (zw (zg rfl (zm rfl (zm rfl (ae.call rfl rfl rfl rfl rfl rfl rfl (sY hW s) ?_))))))
  rintro v h' ⟨rfl,rfl⟩
  refine ae.call rfl rfl rfl rfl rfl rfl rfl (nq hW (s.aa [1]) ee) ?_
  rintro v h' ⟨rfl,rfl⟩
  have e:(fy 1 0 bA).b.length=szB bA:=by show (logB 1 bA).length=_; rw [gT]
  have e1:(fy 1 0 bA).base=1:=rfl
  refine ae.aR rfl rfl rfl (af rfl rfl aX) (by rw [e,e1]; simp; omega) ?_
  refine zv (zi rfl (WP.skip (WP.block (zg rfl (zm rfl (ae.call rfl rfl rfl rfl rfl rfl rfl (sY hW s) ?_))))))
  rintro v h' ⟨rfl,rfl⟩
  subst hA
  refine zm rfl (ae.call rfl rfl rfl rfl rfl rfl rfl (uH (bA:=A) (cU:=B) (r:=y) hT.wr tq hy (s.aa [1])) ?_)
  rintro v h ⟨dt,ch,WB,rfl,s⟩
  dsimp only [ai,bringA] at s
  have lz:=(s.buf (k:=1) rfl).view.cells
  have j5:=s.gx (j:=2) rfl
  have fK:[V.int .i64 (y.kd:Int),V.int .u64 (y.tx:Int),V.int .u64 (y.pv:Int),V.int .u64 (y.nx:Int),dt,ch].all storable=true:=h_ lz.2 j5.2.1
  refine zm rfl (ze rfl (ze rfl (ze rfl ?_)))
  refine ae.bO s rfl rfl rfl (bK jP) (fun QN h s => ?_)
  dsimp only [V.cells,List.length_cons,List.length_nil,Nat.reduceAdd] at s
  refine ae.bn rfl rfl rfl rfl rfl (s.eN (j:=0) rfl dK rfl fK) ?_
  rintro h s
  dsimp only [setA] at s
  obtain ⟨u3,u4,ev,u6,c1,s⟩:=Ot (s.aa [8]) I
  dsimp only [ai,bringA] at s
  obtain ⟨id,off,g1,g3⟩:=s.Oq (P:=Tryz.prog) (i:=A.length) (j:=9) rfl (by omega) (by decide) Tryz.underlying65 dK
  rw [c1] at g3
  obtain ⟨iY,Jc,f1,f2⟩:=lW (P:=Tryz.prog) s (k:=8) (i:=A.length) (c:=.int .u64 ((1+szB A:Nat):Int)) rfl (by rw [U,List.append_assoc,qA]; simp only [List.cons_append,fF,yo,List.map_append,List.map_cons]; rw [List.getElem?_append_right (by rw [List.length_map,qB]; exact Nat.le_refl _),List.length_map,qB,Nat.sub_self]; rfl) Tryz.underlying66 mG
  have UY:=(s.buf (k:=4) rfl).view
  have UZ:=s.ax (k:=0) rfl (bN _ _)
  refine za rfl (za rfl (zv (zw (zg rfl (zm rfl (ae.aE rfl rfl rfl (af rfl rfl aN) (rfl) (zm rfl (zm rfl (zm rfl (ae.aE rfl rfl rfl (af rfl rfl wK) (by simp; omega) ?_))))))))))
  refine zp rfl (zv (zj rfl (WP.skip (zw (zg rfl (zf rfl (jX _ _) (zl rfl (by exact s.ld (k:=2) rfl cq rfl) ?_)))))))
  refine ae.aR rfl rfl rfl (af rfl rfl wK) (by have:=hk y Rc; simp; omega) ?_
  refine zv (zi rfl (zw (zw (WP.drawn [none,none,none,none,none,none,none,none,none,none,none,none,none,none,none,none,none,none,none,none,none,none,none,none,none,none,none,none,none,none,none,none,none,none,none,none,none,none,none,none,none,none,none,none] rfl (by kernel_rfl) (by kernel_rfl) ?_))))
  refine zM rfl (zM rfl (zO rfl (aL rfl rfl rfl (s.iH (n:=rs.length) (j:=9) rfl kx (by decide) Tryz.underlying65)) ?_))
  refine au.aE rfl rfl rfl rfl (af rfl rfl kZ) (by simp; omega) ?_
  refine zM rfl (zM rfl (zM rfl (zO rfl (cH (r:=.ptr iY Jc) rfl rfl f1) (zL rfl (f2 _ gP) (zM rfl (au.aE rfl rfl rfl rfl (af rfl rfl aN) (by simp) ?_))))))
  refine zO rfl (kA rfl rfl) (zM rfl (zF rfl (jX _ _) (zL rfl (by exact s.ld (k:=2) rfl cq rfl) ?_)))
  refine zM rfl (zM rfl (zO rfl (cH (r:=.ptr id off) rfl rfl g1) (zF rfl (jX _ _) (zL rfl (g3 0 _ _ rfl cq) (au.aE rfl rfl rfl rfl (af rfl rfl aN) (by simp) ?_)))))
  refine zO rfl (kA rfl rfl) (zM rfl (zF rfl (vq _ _) (zL rfl (by exact s.ld (k:=2) rfl gP rfl) ?_)))
  refine zM rfl (zM rfl (zO rfl (cH (r:=.ptr id off) rfl rfl g1) (zF rfl (vq _ _) (zL rfl (g3 1 _ _ rfl gP) (au.aE rfl rfl rfl rfl (af rfl rfl aN) (by simp) ?_)))))
  refine zO rfl (kA rfl rfl) (zM rfl (zF rfl (nO _ _) (zL rfl (by exact s.ld (k:=2) rfl bg rfl) ?_)))
  refine au.op rfl rfl rfl (by simp only [isEff,Tryz.underlying9]) (bz rfl (qN UY)) ?_
  refine zM rfl (zM rfl (zO rfl (cH (r:=.ptr id off) rfl rfl g1) (zF rfl (nO _ _) (zL rfl (g3 4 _ _ rfl bg) (au.op rfl rfl rfl (by simp only [isEff,Tryz.underlying9]) (bz rfl (qN UZ)) ?_)))))
  refine au.aE rfl rfl rfl rfl (af rfl rfl OQ) (by simp) ?_
  refine zO rfl (kA rfl rfl) ?_
  refine au.nil ⟨⟨trivial,trivial,trivial,trivial,trivial,trivial,trivial,trivial,trivial,trivial,trivial,trivial,trivial,trivial,trivial,trivial,trivial,trivial,trivial,trivial,trivial,trivial,trivial,trivial,trivial,trivial,trivial,trivial,trivial,trivial,trivial,trivial,trivial,trivial,trivial,trivial,trivial,trivial,trivial,trivial,trivial,trivial,trivial,trivial,trivial⟩,?_⟩
  refine zj rfl (WP.skip (zr rfl (zm rfl (zb rfl (by exact bl (aF (by omega) (by omega))) ?_))))
  refine za rfl (zv (zr rfl (zm rfl (za rfl (zv ?_)))))
  have s:=(((((s.aa [7,3,6,6,1]).del 5).del 5).del 5).del 5).del 5
  dsimp only [bringA,getA,ai] at s
  refine ih (A++[y]) _ _ Q (by simp) s ⟨rfl,rfl,rfl,?_,?_,trivial⟩ hx
  ·rw [show ((A++[y]).length:Int)=(A.length:Int)+1 by simp]; rfl
  ·rw [show 1+szB (A++[y])=1+szB A+y.len by rw [tf]; simp only [szB]; omega]; rfl
theorem L6 (hT:W4 told)(hD:∀D∈L,D.data.length≤1048576∧D.w.length≤1048576∧∀x∈D.w,x.2.length≤1048576)(WC:L.length≤1048576)(s:Sat h (gd 4 lv cs::fZ cs L::.bp cv c::S)):
  Call ⟨Tryz.prog,told⟩ 6 [lv,cv] h fun v h'=>v=.bool true:=by
 have hW:=hT.w.w.w
 have hlen:=sn s (k:=1) rfl
 refine Call.of_wp (hW.free _ rfl) Tryz.func6 rfl rfl (zg rfl (za rfl (zv (zw (zg rfl (ae.call rfl rfl rfl rfl rfl rfl rfl (Jd hT.w s) ?_))))))
 rintro v h' ⟨rfl,rfl⟩
 refine ae.aE rfl rfl rfl (dA rfl rfl) (rfl) (zv (zj rfl (WP.skip (zw (zg rfl (zm rfl (zo rfl (aL rfl rfl rfl (s.sj (n:=L.length) (j:=0) rfl hlen (by decide) Tryz.underlying56)) ?_)))))))
 by_cases hL:200<L.length
 ·skip
  refine ae.aR rfl rfl rfl (af rfl rfl dS) (by simp; omega) ?_
  refine zv (zi rfl (zg rfl (za rfl (zv ?_))))
  refine WP.ret ⟨trivial,_,rfl,?_⟩
  trivial
 ·skip
  refine ae.aE rfl rfl rfl (af rfl rfl dS) (by simp; omega) ?_
  refine zv (zj rfl (WP.skip (zg rfl (ae.call rfl rfl rfl rfl rfl rfl rfl (Eh (n:=12) (m:=65536) (f:=14) hW s (by decide) (by decide) (by decide) (by decide) (by decide)) ?_))))
  rintro v h ⟨p,a,q,r,rfl,s⟩
  refine zm rfl (ze rfl (ze rfl (za rfl (za rfl (zv (zw (zg rfl (zm rfl (ae.aE rfl rfl rfl (af rfl rfl (vN Tryz.underlying24)) (rfl) ?_)))))))))
  obtain ⟨i1,js,iI,pq⟩:=A3
  obtain ⟨pv,h1,e3,s1⟩:=xG (P:=Tryz.prog) s Tryz.underlying57 js Ni iI (by omega) rfl (by decide) (by decide) (n:=12) (c:=12) (by decide) (by decide)
  refine zv (zj rfl (WP.skip (zg rfl (ae.any rfl rfl rfl (OpR.of (R:=fun v h'=>v=pv∧h'=h1) (ow rfl rfl e3) ⟨rfl,rfl⟩) ?_))))
  rintro v h ⟨rfl,rfl⟩
  have s:Sat h (.arr 1 v (d_ (List.replicate 12 []))::_):=s1
  have s:=(s.jZ (k:=6)).jZ (k:=1)
  have s:Sat h (lY [] []::_):=s.eu trivial
  refine za rfl (zv (zg rfl (za rfl (zv (zg rfl (za rfl (zv (zw (zg rfl (za rfl (zv (WP.block ?_))))))))))))
  refine Hl hT (cs:=cs) (cv:=cv) (by omega) hD L.length 0 (fresh 12 65536 14) (List.replicate 12 []) [] _ _ _ _ _ _ _ (by omega) (EI.fresh (by decide) (by decide) (by decide) (by decide)) rfl oc.fresh ⟨rfl,rfl,rfl,rfl,rfl,rfl,by show (-1:Int)<0; decide,rfl,rfl,rfl,fun w hw=>(by cases hw),fun r hr=>(by cases hr)⟩ (fun r hr=>(by cases hr)) (Nat.le_refl _) (s.aa [4,4,4,4,3,1,1,0,0,0]) ⟨rfl,rfl,rfl,rfl,rfl,rfl,rfl,rfl,trivial⟩ (fun ε' ua U0 Da Ho Hp Jv E h kO hl hk hr hE s => ?_)
  refine WP.has hE ?_
  dsimp only [ai,bringA] at s
  have Eo:=kO.b8
  have Q1:=ob (ε:=ε')
  have J:=kO.ok.ok.dk
  have xp:=hl.cr J (by omega) (by decide)
  obtain ⟨JG,Fw⟩:=Jr (c:=c) xp
  obtain ⟨bA,cU,jj,U,I,hj,x_⟩:=EF (c:=c) hl J
  have WD:ε'.2.2.log.length≤16777216:=J.len
  have Sj:szB bA≤16777216:=by
   have:=congrArg List.length I
   rw [List.length_append,gT] at this
   omega
  refine zg rfl (zm rfl (zm rfl (ae.call rfl rfl rfl rfl rfl rfl rfl (Jf hW (s.aa [3,9]) (bN _ _) xp) ?_)))
  rintro v h ⟨q2,rfl,s⟩
  dsimp only [ai,bringA] at s
  refine ae.call rfl rfl rfl rfl rfl rfl rfl (Jn (n:=12) (base:=1) (aK:=0) (rs:=bA) (bA:=[]) (cU:=bA) (data:=[]) hT (by decide) (by decide) s JG rfl (.inl ⟨hl.mark,rfl,rfl⟩) (by omega) (by decide) I (fun x hx=>hl.rs x (by rw [U]; exact List.mem_append.2 (.inl hx))) hj ⟨rfl,.inl ⟨rfl,rfl,rfl⟩⟩) ?_
  have FD:=Lv.kg (δ:=ia ε'.2.2 c) (base:=1) (rs:=bA) (bA:=[]) (cU:=bA) Jq (fun x hx=>hl.rs x (by rw [U]; exact List.mem_append.2 (.inl hx)))
  rintro v h (⟨h0,_⟩ | ⟨_,a2,q3,r2,rfl,s⟩)
  ·exact absurd FD.1 h0
  refine zm rfl (ze rfl (ze rfl (za rfl (za rfl (zv (zw (zg rfl (zm rfl (ae.aE rfl rfl rfl (af rfl rfl aN) (rfl) (zm rfl (zm rfl (ae.aE rfl rfl rfl (af rfl rfl (vN Tryz.underlying24)) (rfl) (zp rfl (zv (zj rfl (WP.skip (zg rfl (za rfl (zv (zw (zg rfl ?_)))))))))))))))))))))
  refine zm rfl (ae.call rfl rfl rfl rfl rfl rfl rfl (sY hW s) ?_)
  rintro v h' ⟨rfl,rfl⟩
  refine ae.call rfl rfl rfl rfl rfl rfl rfl (rU hW (s.aa [2])) ?_
  rintro v h' ⟨rfl,rfl⟩
  refine za rfl (zv (WP.block ?_))
  refine Hq hT (rs:=U0) U hl.rs hk (C9 (by omega) Sj (by decide)) hr bA [] _ _ _ rfl (s.aa [0,1,8,8,8]) ⟨rfl,rfl,rfl,rfl,rfl,trivial⟩ (fun E' h' => ?_)
  refine WP.has (F:=[]) trivial (zg rfl (za rfl (zv ?_)))
  refine WP.ret ⟨trivial,_,rfl,?_⟩
  rfl
end
end Go.Proofs.YtconhghphklfjaaGreat.Am
