/- Part 4 of the proof: Rc, Rd, Re, Rf, Rg, Kf, Kg, Kh, Ki, Kj, Kk, Kl, Km, Kn, Ia, Ib, Ic, Id, Rh, Ha, Hb, Hc, He, Hf, Hd, Ja, Jb, Jc, Jd, Je, Jf, Ly, Oa, Ob, Oc, Od, Jg. -/
import Derived.Test.YtjlcdlekmpjjnaaGreatPC
import Derived.Test.YtjlcdlekmpjjnaaGreatPB
/- The group of a curve y*y = x*x*x + b without points of order two, over any field. -/
namespace Go.Proofs.YtjlcdlekmpjjnaaGreat.Rg
class FD (F:Type) extends CR F where
 inv:F→F
 mul_inv:∀ a:F,a≠0→a*inv a=1
 inv_zero:inv 0=0
 one_ne:(1:F)≠0
 dec:DecidableEq F
instance fdDec {F:Type} [FD F]:DecidableEq F:=FD.dec
open FD (inv)
inductive Pt (F:Type) where
 | inf
 | pt (x y:F)
section
variable {F:Type} [FD F]
theorem cancel {a b c:F} (ha:a≠0) (h:a*b=a*c):b=c:=by
 have h2:inv a*(a*b)=inv a*(a*c):=by rw [h]
 rw [← mul_assoc,← mul_assoc,mul_comm (inv a) a,FD.mul_inv a ha,one_mul,one_mul] at h2
 exact h2
theorem zero_of_mul {a b:F} (ha:a≠0) (h:a*b=0):b=0:=cancel ha (by rw [h,mul_zero])
theorem mul_ne {a b:F} (ha:a≠0) (hb:b≠0):a*b≠0:=fun h=>hb (zero_of_mul ha h)
theorem sub_ne {a b:F} (h:a≠b):a-b≠0:=fun e=>h (sub_zero_iff.1 e)
theorem div_eq {d e l:F} (hd:d≠0) (h:d*l=e):e*inv d=l:=by
 rw [← h,mul_comm d l,mul_assoc,FD.mul_inv d hd,mul_one]
theorem mul_div {d e:F} (hd:d≠0):e*inv d*d=e:=by
 rw [mul_assoc,mul_comm (inv d),FD.mul_inv d hd,mul_one]
def sumAt (x1 y1 x2 l:F):Pt F:=.pt (l*l-x1-x2) (l*(x1-(l*l-x1-x2))-y1)
def add:Pt F→Pt F→Pt F
 | .inf,q=>q
 | .pt x1 y1,q=>match q with
  | .inf=>.pt x1 y1
  | .pt x2 y2=>if x1=x2 then (if y1=y2∧y1≠0 then sumAt x1 y1 x2 ((x1*x1+x1*x1+x1*x1)*inv (y1+y1)) else .inf) else sumAt x1 y1 x2 ((y2-y1)*inv (x2-x1))
theorem add_pt (x1 y1 x2 y2:F):add (.pt x1 y1) (.pt x2 y2)=if x1=x2 then (if y1=y2∧y1≠0 then sumAt x1 y1 x2 ((x1*x1+x1*x1+x1*x1)*inv (y1+y1)) else .inf) else sumAt x1 y1 x2 ((y2-y1)*inv (x2-x1)):=rfl
def neg:Pt F→Pt F
 | .inf=>.inf
 | .pt x y=>.pt x (-y)
def On (b:F):Pt F→Prop
 | .inf=>True
 | .pt x y=>y*y=x*x*x+b
structure Ln (b x1 y1 x2 y2 x3 y3 l n:F):Prop where
 h1:y1=l*x1+n
 h2:y2=l*x2+n
 h3:y3=l*x3+n
 e1:x1+x2+x3=l*l
 e2:x1*x2+x1*x3+x2*x3+(l*n+l*n)=0
 e3:x1*x2*x3+b=n*n
section
variable {b x1 y1 x2 y2 x3 y3 l n:F}
theorem Ln.sw (h:Ln b x1 y1 x2 y2 x3 y3 l n):Ln b x2 y2 x1 y1 x3 y3 l n:=⟨h.h2,h.h1,h.h3,e1_sw _ _ _ _ h.e1,e2_sw _ _ _ _ h.e2,e3_sw _ _ _ _ _ h.e3⟩
theorem Ln.ro (h:Ln b x1 y1 x2 y2 x3 y3 l n):Ln b x2 y2 x3 y3 x1 y1 l n:=⟨h.h2,h.h3,h.h1,e1_ro _ _ _ _ h.e1,e2_ro _ _ _ _ h.e2,e3_ro _ _ _ _ _ h.e3⟩
theorem Ln.neg (h:Ln b x1 y1 x2 y2 x3 y3 l n):Ln b x1 (-y1) x2 (-y2) x3 (-y3) (-l) (-n) :=
 ⟨neg_line _ _ _ _ h.h1,neg_line _ _ _ _ h.h2,neg_line _ _ _ _ h.h3,by rw [neg_sq];exact h.e1,by rw [neg_pr];exact h.e2,by rw [neg_sq];exact h.e3⟩
theorem Ln.on (h:Ln b x1 y1 x2 y2 x3 y3 l n):y1*y1=x1*x1*x1+b:=ln_on x1 y1 x2 x3 l n b h.h1 h.e1 h.e2 h.e3
end
structure Cv (F:Type) [FD F] where
 b:F
 two:(int 2:F)≠0
 no2:∀ x y:F,y*y=x*x*x+b→y≠0
variable (C:Cv F)
include C in
theorem two_ne {y:F} (h:y≠0):y+y≠0:=by rw [two_mul];exact mul_ne C.two h
theorem add_of_ln {x1 y1 x2 y2 x3 y3 l n:F} (h:Ln C.b x1 y1 x2 y2 x3 y3 l n):add (.pt x1 y1) (.pt x2 y2)=.pt x3 (-y3):=by
 have hy:=C.no2 _ _ h.on
 have hsum:sumAt x1 y1 x2 l=.pt x3 (-y3):=by
  unfold sumAt
  rw [ln_x3 x1 x2 x3 l h.e1,ln_y3 x1 y1 x3 y3 l n h.h1 h.h3]
 rw [add_pt]
 by_cases hx:x1=x2
 ·subst hx
  have e:=lin_same _ _ _ _ _ h.h1 h.h2
  have ht:=ln_tan x1 y1 x3 l n h.h1 h.e1 h.e2
  rw [if_pos rfl,if_pos ⟨e,hy⟩,div_eq (two_ne C hy) ht]
  exact hsum
 ·rw [if_neg hx,div_eq (sub_ne (Ne.symm hx)) (ln_sl x1 y1 x2 y2 l n h.h1 h.h2)]
  exact hsum
theorem ln_of_slope {x1 y1 x2 y2 l:F} (c1:y1*y1=x1*x1*x1+C.b) (hl:l*(x2-x1)=y2-y1)
  (e2:x1*x2+x1*(l*l-x1-x2)+x2*(l*l-x1-x2)+(l*(y1-l*x1)+l*(y1-l*x1))=0):Ln C.b x1 y1 x2 y2 (l*l-x1-x2) (l*(l*l-x1-x2)+(y1-l*x1)) l (y1-l*x1) :=
 ⟨id_h1 x1 y1 l,id_h2 x1 y1 x2 y2 l hl,rfl,id_e1 x1 x2 l,e2,ln_e3 x1 y1 x2 l C.b e2 c1⟩
theorem sum_cases {x1 y1 x2 y2:F} (c1:y1*y1=x1*x1*x1+C.b) (c2:y2*y2=x2*x2*x2+C.b):(x2=x1∧y2=-y1)∨∃ x3 y3 l n,Ln C.b x1 y1 x2 y2 x3 y3 l n:=by
 by_cases hx:x1=x2
 ·subst hx
  by_cases hy:y1=y2
  ·subst hy
   have hy0:=C.no2 _ _ c1
   refine .inr ⟨_,_,(x1*x1+x1*x1+x1*x1)*inv (y1+y1),_,ln_of_slope C c1 (by rw [sub_self,sub_self,mul_zero]) ?_⟩
   refine ln_e2t x1 y1 _ ?_
   rw [mul_comm,mul_div (two_ne C hy0)]
  ·refine .inl ⟨rfl,?_⟩
   have:=sq_diff y1 y2 _ c1 c2
   exact neg_of_add y1 y2 (zero_of_mul (sub_ne hy) this)
 ·have hd:=sub_ne (Ne.symm hx)
  have hl:(y2-y1)*inv (x2-x1)*(x2-x1)=y2-y1:=mul_div hd
  exact .inr ⟨_,_,(y2-y1)*inv (x2-x1),_,ln_of_slope C c1 hl (zero_of_mul hd (ln_e2 x1 y1 x2 y2 _ C.b hl c1 c2))⟩
include C in
theorem self_neg {y:F} (hy:y≠0) (h:y=-y):False:=by
 have h2:y+y=0:=by
  have:=Rg.add_neg y
  rw [← h] at this;exact this
 exact two_ne C hy h2
theorem add_neg_self {x y:F} (c:y*y=x*x*x+C.b):add (.pt x y) (.pt x (-y))=.inf:=by
 have hy:=C.no2 _ _ c
 rw [add_pt,if_pos rfl,if_neg]
 rintro ⟨h,_⟩
 exact self_neg C hy h
theorem on_neg {x y:F} (c:y*y=x*x*x+C.b):(-y)*(-y)=x*x*x+C.b:=by rw [neg_sq];exact c
theorem on_negP {p:Pt F} (h:On C.b p):On C.b (neg p):=by
 cases p with
 | inf=>trivial
 | pt x y=>exact on_neg C h
theorem on_add {p q:Pt F} (hp:On C.b p) (hq:On C.b q):On C.b (add p q):=by
 cases p with
 | inf=>exact hq
 | pt x1 y1=>cases q with
  | inf=>exact hp
  | pt x2 y2 =>
   rcases sum_cases C hp hq with ⟨rfl,rfl⟩ | ⟨x3,y3,l,n,h⟩
   ·rw [add_neg_self C hp];trivial
   ·rw [add_of_ln C h];exact on_neg C h.ro.ro.on
theorem add_comm' {p q:Pt F} (hp:On C.b p) (hq:On C.b q):add p q=add q p:=by
 cases p with
 | inf=>cases q<;>rfl
 | pt x1 y1=>cases q with
  | inf=>rfl
  | pt x2 y2 =>
   rcases sum_cases C hp hq with ⟨rfl,rfl⟩ | ⟨x3,y3,l,n,h⟩
   ·rw [add_neg_self C hp]
    have:=add_neg_self C (on_neg C hp)
    rw [neg_neg] at this
    exact this.symm
   ·rw [add_of_ln C h,add_of_ln C h.sw]
theorem add_inf (p:Pt F):add p .inf=p:=by cases p<;>rfl
theorem add_neg_p {p:Pt F} (hp:On C.b p):add p (neg p)=.inf:=by
 cases p with
 | inf=>rfl
 | pt x y=>exact add_neg_self C hp
theorem neg_add_cancel {p q:Pt F} (hp:On C.b p) (hq:On C.b q):add (neg p) (add p q)=q:=by
 cases p with
 | inf=>rfl
 | pt x1 y1=>cases q with
  | inf =>
   have h:=add_neg_self C (on_neg C hp)
   rw [neg_neg] at h
   exact h
  | pt x2 y2 =>
   rcases sum_cases C hp hq with ⟨rfl,rfl⟩ | ⟨x3,y3,l,n,h⟩
   ·rw [add_neg_self C hp];rfl
   ·rw [add_of_ln C h]
    have:=add_of_ln C h.neg.sw.ro
    rw [neg_neg] at this
    exact this
theorem add_left_inj {p q r:Pt F} (hp:On C.b p) (hq:On C.b q) (hr:On C.b r) (h:add p q=add p r):q=r:=by
 rw [← neg_add_cancel C hp hq,h,neg_add_cancel C hp hr]
theorem assoc_special {x1 y1 x2 y2 x3 y3 l n x5 y5 m q:F} (h1:Ln C.b x1 y1 x2 y2 x3 (-y3) l n) (h2:Ln C.b x2 y2 x3 y3 x5 y5 m q):add (.pt x3 y3) (.pt x3 y3)=add (.pt x1 y1) (.pt x5 (-y5)):=by
 have cP:=h1.on
 have cQ:=h2.on
 have cR:=h2.ro.on
 have hyQ:=C.no2 _ _ cQ
 have hyR:=C.no2 _ _ cR
 have a2:add (.pt x1 y1) (.pt x2 y2)=.pt x3 y3:=by rw [add_of_ln C h1,neg_neg]
 have a1:add (.pt x2 y2) (.pt x3 y3)=.pt x5 (-y5):=add_of_ln C h2
 rcases sum_cases C cR cR with ⟨_,e⟩ | ⟨x6,y6,s,n6,h6⟩
 ·exact (self_neg C hyR e).elim
 rcases sum_cases C cP (on_neg C h2.ro.ro.on) with ⟨e1,e2⟩ | ⟨x7,y7,t,n7,h7⟩
 ·exfalso
  have e2:=neg_inj _ _ e2
  subst e1;subst e2
  have a3:=add_of_ln C h2.ro.ro
  rw [a2] at a3
  injection a3 with _ a3
  exact self_neg C hyR a3
 rw [add_of_ln C h6,add_of_ln C h7]
 have ht:(x5-x1)*t=-y5-y1:=ln_sl x1 y1 x5 (-y5) t n7 h7.h1 h7.h2
 have hs:(y3+y3)*s=x3*x3+x3*x3+x3*x3:=ln_tan x3 y3 x6 s n6 h6.h1 h6.e1 h6.e2
 have hd:x5≠x1:=by
  intro e
  subst e
  have e3:=lin_same _ _ _ _ _ h7.h1 h7.h2
  rw [← e3] at a1
  have a4:add (neg (.pt x2 y2)) (.pt x3 y3)=.pt x5 y1:=by
   rw [← a2,add_comm' C (p:=.pt x5 y1) (q:=.pt x2 y2) cP cQ]
   exact neg_add_cancel C (p:=.pt x2 y2) (q:=.pt x5 y1) cQ cP
  have a5:add (.pt x3 y3) (.pt x2 y2)=add (.pt x3 y3) (neg (.pt x2 y2)):=by
   rw [add_comm' C (p:=.pt x3 y3) (q:=.pt x2 y2) cR cQ,add_comm' C (p:=.pt x3 y3) (q:=neg (.pt x2 y2)) cR (on_neg C cQ),a1,a4]
  have a6:=add_left_inj C (p:=.pt x3 y3) (q:=.pt x2 y2) (r:=neg (.pt x2 y2)) cR cQ (on_neg C cQ) a5
  injection a6 with _ a6
  exact self_neg C hyQ a6
 have hi:(int 2:F)*inv (int 2)=int 1:=by rw [FD.mul_inv _ C.two,int_one]
 obtain ⟨h,hh⟩:∃ h:F,h+h=x3-x2:=⟨(x3-x2)*inv (int 2),half_add _ _ hi⟩
 obtain ⟨k,rfl⟩:∃ k:F,l=-k:=⟨-l,(neg_neg l).symm⟩
 have ex3:x3=x2+(h+h):=by rw [hh];exact sub_add _ _
 have hm:y3-y2=m*(h+h):=by
  have:=ln_sl x2 y2 x3 y3 m q h2.h1 h2.h2
  rw [hh,mul_comm];exact this.symm
 have hk:y3+y2=k*(h+h):=by
  have:=ln_sl x2 y2 x3 (-y3) (-k) n h1.h2 h1.h3
  rw [hh];exact neg_sub _ _ _ _ this
 have ey2:y2=(k-m)*h:=cancel C.two (sp_y y2 y3 h m k hm hk)
 have ey3:y3=(k+m)*h:=cancel C.two (sp_yB y2 y3 h m k hm hk)
 have ex1:x1=k*k-x2-x3:=x1_k x1 x2 x3 k h1.e1
 have ey1:y1=k*(x2-x1)+y2:=y1_k x1 y1 x2 y2 k n h1.h1 h1.h2
 have ex5:x5=m*m-x2-x3:=x_of_line x2 x3 x5 m h2.e1
 have ey5:-y5=m*(x2-x5)-y2:=y_of_line x2 y2 x5 y5 m q h2.h1 h2.h3
 have r2:=sp_r2 x2 y2 h m k (by rw [← ex3];exact mid2 x2 y2 x3 x5 m q h2.h1 h2.e1 h2.e2) ey2
 have rs:((k+m)*h+(k+m)*h)*s=(x2+(h+h))*(x2+(h+h))+(x2+(h+h))*(x2+(h+h))+(x2+(h+h))*(x2+(h+h)):=by rw [← ey3,← ex3];exact hs
 have hX:=spX x2 h m k s r2 rs
 have hY:=spY x2 h m k s r2 rs
 rw [← ex3,← ex1,← ex5,← ey2,← ey3,← ey5,← ey1] at hX hY
 have hw:=two_ne C hyR
 have hD:=sub_ne hd
 have x6e:x6=s*s-x3-x3:=x_of_line x3 x3 x6 s h6.e1
 have x7e:x7=t*t-x1-x5:=x_of_line x1 x5 x7 t h7.e1
 have hXX:x6=x7:=by
  rw [x6e,x7e]
  refine cancel (mul_ne hD hD) ?_
  rw [t_sq _ _ _ x1 x5 ht]
  exact cancel (mul_ne hw hw) hX
 have y6e:-y6=s*(x3-x6)-y3:=y_of_line x3 y3 x6 y6 s n6 h6.h1 h6.h3
 have y7e:-y7=t*(x1-x7)-y1:=y_of_line x1 y1 x7 y7 t n7 h7.h1 h7.h3
 have hYY:-y6=-y7:=by
  rw [y6e,y7e,← hXX]
  refine cancel hD ?_
  rw [t_lin _ _ _ x1 x6 y1 ht]
  rw [← x6e] at hY
  exact cancel (mul_ne (mul_ne hw hw) hw) hY
 rw [hXX,hYY]
theorem assoc_gen {x1 y1 x2 y2 x3 y3 x4 y4 x5 y5 x6 y6 x7 y7 l n m q s n6 t n7:F} (h1:Ln C.b x1 y1 x2 y2 x4 y4 l n) (h2:Ln C.b x2 y2 x3 y3 x5 y5 m q) (h3:Ln C.b x4 (-y4) x3 y3 x6 y6 s n6) (h4:Ln C.b x1 y1 x5 (-y5) x7 y7 t n7)
  (hd1:x4≠x3) (hd2:x5≠x1):x6=x7∧-y6=-y7:=by
 have ex4:x4=l*l-x1-x2:=x_of_line x1 x2 x4 l h1.e1
 have ey4:-y4=l*(x2-x4)-y2:=y_of_line x2 y2 x4 y4 l n h1.h2 h1.h3
 have ex5:x5=m*m-x2-x3:=x_of_line x2 x3 x5 m h2.e1
 have ey5:-y5=m*(x2-x5)-y2:=y_of_line x2 y2 x5 y5 m q h2.h1 h2.h3
 have ey3:y3=y2+m*(x3-x2):=y_at x3 y3 x2 y2 m q h2.h2 h2.h1
 have ey1:y1=y2+l*(x1-x2):=y_at x1 y1 x2 y2 l n h1.h1 h1.h2
 have hs:s*(x4-x3)=-y4-y3:=by rw [mul_comm];exact ln_sl x3 y3 x4 (-y4) s n6 h3.h2 h3.h1
 have ht:t*(x5-x1)=-y5-y1:=by rw [mul_comm];exact ln_sl x1 y1 x5 (-y5) t n7 h4.h1 h4.h2
 have r1:=mid1 x1 x2 y2 x4 l n h1.h2 h1.e1 h1.e2
 have r2:=mid2 x2 y2 x3 x5 m q h2.h1 h2.e1 h2.e2
 have hs':s*(l*l-x1-x2-x3)=l*(x2-(l*l-x1-x2))-y2-(y2+m*(x3-x2)):=by rw [← ex4,← ey4,← ey3];exact hs
 have ht':t*(m*m-x2-x3-x1)=m*(x2-(m*m-x2-x3))-y2-(y2+l*(x1-x2)):=by rw [← ex5,← ey5,← ey1];exact ht
 have hX:=genX x1 x2 x3 y2 l m s t r1 r2 hs' ht'
 have hY:=genY x1 x2 x3 y2 l m s t r1 r2 hs' ht'
 rw [← ex4,← ex5] at hX hY
 rw [← ey3,← ey1] at hY
 have hD1:=sub_ne hd1
 have hD2:=sub_ne hd2
 have x6e:x6=s*s-x4-x3:=x_of_line x4 x3 x6 s h3.e1
 have x7e:x7=t*t-x1-x5:=x_of_line x1 x5 x7 t h4.e1
 have hXX:x6=x7:=by rw [x6e,x7e];exact cancel (mul_ne (mul_ne hD1 hD1) (mul_ne hD2 hD2)) hX
 have y6e:-y6=s*(x3-x6)-y3:=y_of_line x3 y3 x6 y6 s n6 h3.h2 h3.h3
 have y7e:-y7=t*(x1-x7)-y1:=y_of_line x1 y1 x7 y7 t n7 h4.h1 h4.h3
 refine ⟨hXX,?_⟩
 rw [y6e,y7e,← hXX]
 rw [← x6e] at hY
 exact cancel (mul_ne (mul_ne (mul_ne hD1 hD1) hD1) hD2) hY
theorem add_assoc' {p q r:Pt F} (hp:On C.b p) (hq:On C.b q) (hr:On C.b r):add (add p q) r=add p (add q r):=by
 cases p with
 | inf=>rfl
 | pt x1 y1=>cases q with
  | inf=>rfl
  | pt x2 y2=>cases r with
   | inf=>rw [add_inf,add_inf]
   | pt x3 y3 =>
    rcases sum_cases C hp hq with ⟨rfl,rfl⟩ | ⟨x4,y4,l,n,h1⟩
    ·rw [add_neg_self C hp]
     have hn:On C.b (.pt x2 (-y1)):=hq
     have:=neg_add_cancel C (p:=.pt x2 (-y1)) (q:=.pt x3 y3) hn hr
     rw [show neg (.pt x2 (-y1):Pt F)=.pt x2 y1 by simp [neg,neg_neg]] at this
     exact this.symm
    rcases sum_cases C hq hr with ⟨rfl,rfl⟩ | ⟨x5,y5,m,q,h2⟩
    ·rw [add_neg_self C hq,add_inf,add_comm' C (on_add C hp hq) hr,add_comm' C hp hq]
     exact neg_add_cancel C (p:=.pt x3 y2) (q:=.pt x1 y1) hq hp
    rw [add_of_ln C h1,add_of_ln C h2]
    have c4:=on_neg C h1.ro.ro.on
    have c5:=on_neg C h2.ro.ro.on
    rcases sum_cases C c4 hr with ⟨e1,e2⟩ | ⟨x6,y6,s,n6,h3⟩
    ·
     rw [neg_neg] at e2
     subst e1;subst e2
     have a:=add_of_ln C h1.ro
     rw [add_of_ln C h2] at a
     rw [a,add_neg_self C hp]
     have:=add_neg_self C c4
     rw [neg_neg] at this
     exact this
    rcases sum_cases C hp c5 with ⟨e1,e2⟩ | ⟨x7,y7,t,n7,h4⟩
    ·have e2:=neg_inj _ _ e2
     subst e1;subst e2
     have a:=add_of_ln C h2.ro.ro
     rw [add_of_ln C h1] at a
     rw [a,add_neg_self C hp]
     have:=add_neg_self C (on_neg C hr)
     rw [neg_neg] at this
     exact this
    by_cases hd1:x4=x3
    ·have e3:=lin_same _ _ _ _ _ (hd1▸h3.h1) h3.h2
     subst hd1
     rw [e3]
     have h1':Ln C.b x1 y1 x2 y2 x4 (-y3) l n:=by rw [← e3,neg_neg];exact h1
     exact assoc_special C h1' h2
    by_cases hd2:x5=x1
    ·have e3:=lin_same _ _ _ _ _ h4.h1 (hd2▸h4.h2)
     subst hd2
     rw [← e3]
     have h2':Ln C.b x3 y3 x2 y2 x5 (-y1) m q:=by rw [e3,neg_neg];exact h2.sw
     have:=assoc_special C h2' h1.sw
     rw [this]
     exact add_comm' C (p:=.pt x4 (-y4)) (q:=.pt x3 y3) c4 hr
    obtain ⟨e1,e2⟩:=assoc_gen C h1 h2 h3 h4 hd1 hd2
    rw [add_of_ln C h3,add_of_ln C h4,e1,e2]
def smul:Nat→Pt F→Pt F
 | 0,_=>.inf
 | n+1,p=>add (smul n p) p
theorem on_smul {p:Pt F} (hp:On C.b p):∀ n,On C.b (smul n p)
 | 0=>trivial
 | n+1=>on_add C (on_smul hp n) hp
theorem smul_add {p:Pt F} (hp:On C.b p) (m:Nat):∀ n,smul (m+n) p=add (smul m p) (smul n p)
 | 0=>(add_inf _).symm
 | n+1=>by
  rw [← Nat.add_assoc]
  simp only [smul]
  rw [smul_add hp m n,add_assoc' C (on_smul C hp m) (on_smul C hp n) hp]
theorem smul_mul {p:Pt F} (hp:On C.b p) (m:Nat):∀ n,smul (m*n) p=smul n (smul m p)
 | 0=>rfl
 | n+1=>by
  rw [Nat.mul_succ,smul_add C hp,smul_mul hp m n];rfl
theorem smul_inf:∀ n,smul n (.inf:Pt F)=.inf
 | 0=>rfl
 | n+1=>by simp only [smul];rw [smul_inf n];rfl
end
end Go.Proofs.YtjlcdlekmpjjnaaGreat.Rg
/- Points as fractions x/z^2, y/z^3: polynomial identities (printed by wip/gen/jac.py). -/
namespace Go.Proofs.YtjlcdlekmpjjnaaGreat.Rg
set_option maxRecDepth 100000
set_option maxHeartbeats 4000000
theorem jt_l {F:Type} [CR F] (x y i I:F) (hi:i=((y+y)*I)):(((y*((i*i)*i))+(y*((i*i)*i)))*((((x*x)+(x*x))+(x*x))*I))=((((x*(i*i))*(x*(i*i)))+((x*(i*i))*(x*(i*i))))+((x*(i*i))*(x*(i*i)))) :=
 sub_zero_iff.1 (lin [x,y,i,I] (.sub (.mul (.add (.mul (.v 1) (.mul (.mul (.v 2) (.v 2)) (.v 2))) (.mul (.v 1) (.mul (.mul (.v 2) (.v 2)) (.v 2)))) (.mul (.add (.add (.mul (.v 0) (.v 0)) (.mul (.v 0) (.v 0))) (.mul (.v 0) (.v 0))) (.v 3))) (.add (.add (.mul (.mul (.v 0) (.mul (.v 2) (.v 2))) (.mul (.v 0) (.mul (.v 2) (.v 2)))) (.mul (.mul (.v 0) (.mul (.v 2) (.v 2))) (.mul (.v 0) (.mul (.v 2) (.v 2))))) (.mul (.mul (.v 0) (.mul (.v 2) (.v 2))) (.mul (.v 0) (.mul (.v 2) (.v 2)))))) [((.mul (.mul (.c (-3)) (.pw (.v 2) 3)) (.pw (.v 0) 2)),.sub (.v 2) (.mul (.add (.v 1) (.v 1)) (.v 3)))] ⟨sub_zero_iff.2 hi,trivial⟩ (by kernel_rfl))
theorem jt_x {F:Type} [CR F] (x y i I:F) (hi:i=((y+y)*I)):(((((((x*x)+(x*x))+(x*x))*I)*((((x*x)+(x*x))+(x*x))*I))-(x*(i*i)))-(x*(i*i)))=((((((x*x)+(x*x))+(x*x))*(((x*x)+(x*x))+(x*x)))-((((x*(y*y))+(x*(y*y)))+((x*(y*y))+(x*(y*y))))+(((x*(y*y))+(x*(y*y)))+((x*(y*y))+(x*(y*y))))))*(I*I)) :=
 sub_zero_iff.1 (lin [x,y,i,I] (.sub (.sub (.sub (.mul (.mul (.add (.add (.mul (.v 0) (.v 0)) (.mul (.v 0) (.v 0))) (.mul (.v 0) (.v 0))) (.v 3)) (.mul (.add (.add (.mul (.v 0) (.v 0)) (.mul (.v 0) (.v 0))) (.mul (.v 0) (.v 0))) (.v 3))) (.mul (.v 0) (.mul (.v 2) (.v 2)))) (.mul (.v 0) (.mul (.v 2) (.v 2)))) (.mul (.sub (.mul (.add (.add (.mul (.v 0) (.v 0)) (.mul (.v 0) (.v 0))) (.mul (.v 0) (.v 0))) (.add (.add (.mul (.v 0) (.v 0)) (.mul (.v 0) (.v 0))) (.mul (.v 0) (.v 0)))) (.add (.add (.add (.mul (.v 0) (.mul (.v 1) (.v 1))) (.mul (.v 0) (.mul (.v 1) (.v 1)))) (.add (.mul (.v 0) (.mul (.v 1) (.v 1))) (.mul (.v 0) (.mul (.v 1) (.v 1))))) (.add (.add (.mul (.v 0) (.mul (.v 1) (.v 1))) (.mul (.v 0) (.mul (.v 1) (.v 1)))) (.add (.mul (.v 0) (.mul (.v 1) (.v 1))) (.mul (.v 0) (.mul (.v 1) (.v 1))))))) (.mul (.v 3) (.v 3)))) [((.add (.mul (.mul (.c (-2)) (.v 2)) (.v 0)) (.mul (.mul (.mul (.c (-4)) (.v 0)) (.v 1)) (.v 3))),.sub (.v 2) (.mul (.add (.v 1) (.v 1)) (.v 3)))] ⟨sub_zero_iff.2 hi,trivial⟩ (by kernel_rfl))
theorem jt_y {F:Type} [CR F] (x y i I:F) (hi:i=((y+y)*I)):((((((x*x)+(x*x))+(x*x))*I)*((x*(i*i))-(((((((x*x)+(x*x))+(x*x))*I)*((((x*x)+(x*x))+(x*x))*I))-(x*(i*i)))-(x*(i*i)))))-(y*((i*i)*i)))=((((((x*x)+(x*x))+(x*x))*((((x*(y*y))+(x*(y*y)))+((x*(y*y))+(x*(y*y))))-(((((x*x)+(x*x))+(x*x))*(((x*x)+(x*x))+(x*x)))-((((x*(y*y))+(x*(y*y)))+((x*(y*y))+(x*(y*y))))+(((x*(y*y))+(x*(y*y)))+((x*(y*y))+(x*(y*y))))))))-(((((y*y)*(y*y))+((y*y)*(y*y)))+(((y*y)*(y*y))+((y*y)*(y*y))))+((((y*y)*(y*y))+((y*y)*(y*y)))+(((y*y)*(y*y))+((y*y)*(y*y))))))*((I*I)*I)) :=
 sub_zero_iff.1 (lin [x,y,i,I] (.sub (.sub (.mul (.mul (.add (.add (.mul (.v 0) (.v 0)) (.mul (.v 0) (.v 0))) (.mul (.v 0) (.v 0))) (.v 3)) (.sub (.mul (.v 0) (.mul (.v 2) (.v 2))) (.sub (.sub (.mul (.mul (.add (.add (.mul (.v 0) (.v 0)) (.mul (.v 0) (.v 0))) (.mul (.v 0) (.v 0))) (.v 3)) (.mul (.add (.add (.mul (.v 0) (.v 0)) (.mul (.v 0) (.v 0))) (.mul (.v 0) (.v 0))) (.v 3))) (.mul (.v 0) (.mul (.v 2) (.v 2)))) (.mul (.v 0) (.mul (.v 2) (.v 2)))))) (.mul (.v 1) (.mul (.mul (.v 2) (.v 2)) (.v 2)))) (.mul (.sub (.mul (.add (.add (.mul (.v 0) (.v 0)) (.mul (.v 0) (.v 0))) (.mul (.v 0) (.v 0))) (.sub (.add (.add (.mul (.v 0) (.mul (.v 1) (.v 1))) (.mul (.v 0) (.mul (.v 1) (.v 1)))) (.add (.mul (.v 0) (.mul (.v 1) (.v 1))) (.mul (.v 0) (.mul (.v 1) (.v 1))))) (.sub (.mul (.add (.add (.mul (.v 0) (.v 0)) (.mul (.v 0) (.v 0))) (.mul (.v 0) (.v 0))) (.add (.add (.mul (.v 0) (.v 0)) (.mul (.v 0) (.v 0))) (.mul (.v 0) (.v 0)))) (.add (.add (.add (.mul (.v 0) (.mul (.v 1) (.v 1))) (.mul (.v 0) (.mul (.v 1) (.v 1)))) (.add (.mul (.v 0) (.mul (.v 1) (.v 1))) (.mul (.v 0) (.mul (.v 1) (.v 1))))) (.add (.add (.mul (.v 0) (.mul (.v 1) (.v 1))) (.mul (.v 0) (.mul (.v 1) (.v 1)))) (.add (.mul (.v 0) (.mul (.v 1) (.v 1))) (.mul (.v 0) (.mul (.v 1) (.v 1))))))))) (.add (.add (.add (.mul (.mul (.v 1) (.v 1)) (.mul (.v 1) (.v 1))) (.mul (.mul (.v 1) (.v 1)) (.mul (.v 1) (.v 1)))) (.add (.mul (.mul (.v 1) (.v 1)) (.mul (.v 1) (.v 1))) (.mul (.mul (.v 1) (.v 1)) (.mul (.v 1) (.v 1))))) (.add (.add (.mul (.mul (.v 1) (.v 1)) (.mul (.v 1) (.v 1))) (.mul (.mul (.v 1) (.v 1)) (.mul (.v 1) (.v 1)))) (.add (.mul (.mul (.v 1) (.v 1)) (.mul (.v 1) (.v 1))) (.mul (.mul (.v 1) (.v 1)) (.mul (.v 1) (.v 1))))))) (.mul (.mul (.v 3) (.v 3)) (.v 3)))) [((.add (.add (.neg (.mul (.pw (.v 2) 2) (.v 1))) (.mul (.mul (.mul (.c 9) (.v 2)) (.pw (.v 0) 3)) (.v 3))) (.add (.mul (.mul (.mul (.c (-2)) (.v 2)) (.pw (.v 1) 2)) (.v 3)) (.add (.mul (.mul (.mul (.c 18) (.pw (.v 0) 3)) (.v 1)) (.pw (.v 3) 2)) (.mul (.mul (.c (-4)) (.pw (.v 1) 3)) (.pw (.v 3) 2))))),.sub (.v 2) (.mul (.add (.v 1) (.v 1)) (.v 3)))] ⟨sub_zero_iff.2 hi,trivial⟩ (by kernel_rfl))
theorem jt_i {F:Type} [CR F] (y z i I:F) (hz:(z*i)=(int 1)) (hZ:(((y*z)+(y*z))*I)=(int 1)):i=((y+y)*I) :=
 sub_zero_iff.1 (lin [y,z,i,I] (.sub (.v 2) (.mul (.add (.v 0) (.v 0)) (.v 3))) [((.mul (.mul (.c 2) (.v 0)) (.v 3)),.sub (.mul (.v 1) (.v 2)) (.c 1)),
  ((.neg (.v 2)),.sub (.mul (.add (.mul (.v 0) (.v 1)) (.mul (.v 0) (.v 1))) (.v 3)) (.c 1))] ⟨sub_zero_iff.2 hz,sub_zero_iff.2 hZ,trivial⟩ (by kernel_rfl))
theorem jp_h {F:Type} [CR F] (x a z i:F) (hz:(z*i)=(int 1)):(((a*(z*z))-x)*(i*i))=(a-(x*(i*i))) :=
 sub_zero_iff.1 (lin [x,a,z,i] (.sub (.mul (.sub (.mul (.v 1) (.mul (.v 2) (.v 2))) (.v 0)) (.mul (.v 3) (.v 3))) (.sub (.v 1) (.mul (.v 0) (.mul (.v 3) (.v 3))))) [((.add (.mul (.mul (.v 1) (.v 2)) (.v 3)) (.v 1)),.sub (.mul (.v 2) (.v 3)) (.c 1))] ⟨sub_zero_iff.2 hz,trivial⟩ (by kernel_rfl))
theorem jp_r {F:Type} [CR F] (y b z i:F) (hz:(z*i)=(int 1)):(((b*((z*z)*z))-y)*((i*i)*i))=(b-(y*((i*i)*i))) :=
 sub_zero_iff.1 (lin [y,b,z,i] (.sub (.mul (.sub (.mul (.v 1) (.mul (.mul (.v 2) (.v 2)) (.v 2))) (.v 0)) (.mul (.mul (.v 3) (.v 3)) (.v 3))) (.sub (.v 1) (.mul (.v 0) (.mul (.mul (.v 3) (.v 3)) (.v 3))))) [((.add (.mul (.mul (.v 1) (.pw (.v 2) 2)) (.pw (.v 3) 2)) (.add (.mul (.mul (.v 1) (.v 2)) (.v 3)) (.v 1))),.sub (.mul (.v 2) (.v 3)) (.c 1))] ⟨sub_zero_iff.2 hz,trivial⟩ (by kernel_rfl))
theorem jp_i {F:Type} [CR F] (z h i I:F) (hz:(z*i)=(int 1)) (hZ:((z*h)*I)=(int 1)):i=(h*I) :=
 sub_zero_iff.1 (lin [z,h,i,I] (.sub (.v 2) (.mul (.v 1) (.v 3))) [((.mul (.v 1) (.v 3)),.sub (.mul (.v 0) (.v 2)) (.c 1)),
  ((.neg (.v 2)),.sub (.mul (.mul (.v 0) (.v 1)) (.v 3)) (.c 1))] ⟨sub_zero_iff.2 hz,sub_zero_iff.2 hZ,trivial⟩ (by kernel_rfl))
theorem jp_l {F:Type} [CR F] (x y a b i I h r:F) (hi:i=(h*I)) (hh:(h*(i*i))=(a-(x*(i*i)))) (hr:(r*((i*i)*i))=(b-(y*((i*i)*i)))):((a-(x*(i*i)))*(r*I))=(b-(y*((i*i)*i))) :=
 sub_zero_iff.1 (lin [x,y,a,b,i,I,h,r] (.sub (.mul (.sub (.v 2) (.mul (.v 0) (.mul (.v 4) (.v 4)))) (.mul (.v 7) (.v 5))) (.sub (.v 3) (.mul (.v 1) (.mul (.mul (.v 4) (.v 4)) (.v 4))))) [((.neg (.mul (.pw (.v 4) 2) (.v 7))),.sub (.v 4) (.mul (.v 6) (.v 5))),
  ((.neg (.mul (.v 5) (.v 7))),.sub (.mul (.v 6) (.mul (.v 4) (.v 4))) (.sub (.v 2) (.mul (.v 0) (.mul (.v 4) (.v 4))))),
  ((.c 1),.sub (.mul (.v 7) (.mul (.mul (.v 4) (.v 4)) (.v 4))) (.sub (.v 3) (.mul (.v 1) (.mul (.mul (.v 4) (.v 4)) (.v 4)))))] ⟨sub_zero_iff.2 hi,sub_zero_iff.2 hh,sub_zero_iff.2 hr,trivial⟩ (by kernel_rfl))
theorem jp_x {F:Type} [CR F] (x y a i I h r:F) (hi:i=(h*I)) (hh:(h*(i*i))=(a-(x*(i*i)))):((((r*I)*(r*I))-(x*(i*i)))-a)=((((r*r)-((h*h)*h))-((x*(h*h))+(x*(h*h))))*(I*I)) :=
 sub_zero_iff.1 (lin [x,y,a,i,I,h,r] (.sub (.sub (.sub (.mul (.mul (.v 6) (.v 4)) (.mul (.v 6) (.v 4))) (.mul (.v 0) (.mul (.v 3) (.v 3)))) (.v 2)) (.mul (.sub (.sub (.mul (.v 6) (.v 6)) (.mul (.mul (.v 5) (.v 5)) (.v 5))) (.add (.mul (.v 0) (.mul (.v 5) (.v 5))) (.mul (.v 0) (.mul (.v 5) (.v 5))))) (.mul (.v 4) (.v 4)))) [((.add (.add (.mul (.mul (.c (-2)) (.v 0)) (.v 3)) (.mul (.mul (.mul (.c (-2)) (.v 0)) (.v 4)) (.v 5))) (.add (.neg (.mul (.v 3) (.v 5))) (.neg (.mul (.v 4) (.pw (.v 5) 2))))),.sub (.v 3) (.mul (.v 5) (.v 4))),
  ((.c 1),.sub (.mul (.v 5) (.mul (.v 3) (.v 3))) (.sub (.v 2) (.mul (.v 0) (.mul (.v 3) (.v 3)))))] ⟨sub_zero_iff.2 hi,sub_zero_iff.2 hh,trivial⟩ (by kernel_rfl))
theorem jp_y {F:Type} [CR F] (x y a i I h r:F) (hi:i=(h*I)) (hh:(h*(i*i))=(a-(x*(i*i)))):(((r*I)*((x*(i*i))-((((r*I)*(r*I))-(x*(i*i)))-a)))-(y*((i*i)*i)))=(((r*((x*(h*h))-(((r*r)-((h*h)*h))-((x*(h*h))+(x*(h*h))))))-(y*((h*h)*h)))*((I*I)*I)) :=
 sub_zero_iff.1 (lin [x,y,a,i,I,h,r] (.sub (.sub (.mul (.mul (.v 6) (.v 4)) (.sub (.mul (.v 0) (.mul (.v 3) (.v 3))) (.sub (.sub (.mul (.mul (.v 6) (.v 4)) (.mul (.v 6) (.v 4))) (.mul (.v 0) (.mul (.v 3) (.v 3)))) (.v 2)))) (.mul (.v 1) (.mul (.mul (.v 3) (.v 3)) (.v 3)))) (.mul (.sub (.mul (.v 6) (.sub (.mul (.v 0) (.mul (.v 5) (.v 5))) (.sub (.sub (.mul (.v 6) (.v 6)) (.mul (.mul (.v 5) (.v 5)) (.v 5))) (.add (.mul (.v 0) (.mul (.v 5) (.v 5))) (.mul (.v 0) (.mul (.v 5) (.v 5))))))) (.mul (.v 1) (.mul (.mul (.v 5) (.v 5)) (.v 5)))) (.mul (.mul (.v 4) (.v 4)) (.v 4)))) [((.add (.add (.mul (.mul (.mul (.mul (.c 3) (.v 0)) (.v 3)) (.v 4)) (.v 6)) (.add (.mul (.mul (.mul (.mul (.c 3) (.v 0)) (.pw (.v 4) 2)) (.v 5)) (.v 6)) (.neg (.mul (.v 1) (.pw (.v 3) 2))))) (.add (.add (.neg (.mul (.mul (.mul (.v 1) (.v 3)) (.v 4)) (.v 5))) (.neg (.mul (.mul (.v 1) (.pw (.v 4) 2)) (.pw (.v 5) 2)))) (.add (.mul (.mul (.mul (.v 3) (.v 4)) (.v 5)) (.v 6)) (.mul (.mul (.pw (.v 4) 2) (.pw (.v 5) 2)) (.v 6))))),.sub (.v 3) (.mul (.v 5) (.v 4))),
  ((.neg (.mul (.v 4) (.v 6))),.sub (.mul (.v 5) (.mul (.v 3) (.v 3))) (.sub (.v 2) (.mul (.v 0) (.mul (.v 3) (.v 3)))))] ⟨sub_zero_iff.2 hi,sub_zero_iff.2 hh,trivial⟩ (by kernel_rfl))
end Go.Proofs.YtjlcdlekmpjjnaaGreat.Rg
/- Points as fractions: doubling and adding without a division. -/
namespace Go.Proofs.YtjlcdlekmpjjnaaGreat.Rg
open FD (inv)
structure J (F:Type) where
 x:F
 y:F
 z:F
section
variable {F:Type} [FD F]
def ptJ (j:J F):Pt F:=if j.z=0 then .inf else .pt (j.x*(inv j.z*inv j.z)) (j.y*((inv j.z*inv j.z)*inv j.z))
def jE (x:F):F:=x*x+x*x+x*x
def jD (x y:F):F:=x*(y*y)+x*(y*y)+(x*(y*y)+x*(y*y))
def jC2 (y:F):F:=(y*y)*(y*y)+(y*y)*(y*y)
def jC4 (y:F):F:=jC2 y+jC2 y
def jC8 (y:F):F:=jC4 y+jC4 y
def jX (x y:F):F:=jE x*jE x-(jD x y+jD x y)
def twJ (j:J F):J F:=⟨jX j.x j.y,jE j.x*(jD j.x j.y-jX j.x j.y)-jC8 j.y,j.y*j.z+j.y*j.z⟩
def pX (x h r:F):F:=r*r-(h*h)*h-(x*(h*h)+x*(h*h))
def pY (x y h r:F):F:=r*(x*(h*h)-pX x h r)-y*((h*h)*h)
def pH (j:J F) (a:F):F:=a*(j.z*j.z)-j.x
def pR (j:J F) (b:F):F:=b*((j.z*j.z)*j.z)-j.y
def plJ (j:J F) (a b:F):J F :=
 if j.z=0 then ⟨a,b,1⟩ else if pH j a=0 then (if pR j b=0 then twJ j else ⟨0,0,0⟩)
 else ⟨pX j.x (pH j a) (pR j b),pY j.x j.y (pH j a) (pR j b),j.z*pH j a⟩
theorem zi1 {z:F} (h:z≠0):z*inv z=int 1:=by rw [FD.mul_inv z h,int_one]
theorem ptJ_ne {j:J F} (h:j.z≠0):ptJ j=.pt (j.x*(inv j.z*inv j.z)) (j.y*((inv j.z*inv j.z)*inv j.z)):=if_neg h
theorem ptJ_zero {j:J F} (h:j.z=0):ptJ j=.inf:=if_pos h
theorem inv_one:inv (1:F)=1:=by have:=FD.mul_inv (1:F) FD.one_ne;rwa [one_mul] at this
theorem inv_ne {z:F} (h:z≠0):inv z≠0:=fun e=>by
 have:=FD.mul_inv z h
 rw [e,mul_zero] at this
 exact FD.one_ne this.symm
variable (C:Cv F)
theorem ptJ_tw {j:J F} (hp:On C.b (ptJ j)):ptJ (twJ j)=add (ptJ j) (ptJ j):=by
 by_cases hz:j.z=0
 ·have h2:(twJ j).z=0:=by show j.y*j.z+j.y*j.z=0;rw [hz,mul_zero,zero_add]
  rw [ptJ_zero h2,ptJ_zero hz];rfl
 ·rw [ptJ_ne hz] at hp ⊢
  have hY:=C.no2 _ _ hp
  have hy:j.y≠0:=fun e=>hY (by rw [e,zero_mul])
  have hZ:j.y*j.z+j.y*j.z≠0:=two_ne C (mul_ne hy hz)
  have hi:=jt_i j.y j.z (inv j.z) (inv (j.y*j.z+j.y*j.z)) (zi1 hz) (zi1 hZ)
  rw [ptJ_ne (j:=twJ j) hZ,add_pt,if_pos rfl,if_pos ⟨rfl,hY⟩,div_eq (two_ne C hY) (jt_l j.x j.y _ _ hi)]
  unfold sumAt
  rw [jt_x j.x j.y _ _ hi]
  have h2:=jt_y j.x j.y _ _ hi
  rw [jt_x j.x j.y _ _ hi] at h2
  rw [h2];rfl
theorem ptJ_pl {j:J F} {a b:F} (hp:On C.b (ptJ j)):ptJ (plJ j a b)=add (ptJ j) (.pt a b):=by
 unfold plJ
 by_cases hz:j.z=0
 ·rw [if_pos hz,ptJ_zero hz,ptJ_ne (j:=⟨a,b,1⟩) FD.one_ne]
  show Pt.pt (a*(inv 1*inv 1)) (b*((inv 1*inv 1)*inv 1))=.pt a b
  rw [inv_one,one_mul,one_mul,mul_one,mul_one]
 ·rw [if_neg hz]
  have eh:pH j a*(inv j.z*inv j.z)=a-j.x*(inv j.z*inv j.z):=jp_h j.x a j.z _ (zi1 hz)
  have er:pR j b*((inv j.z*inv j.z)*inv j.z)=b-j.y*((inv j.z*inv j.z)*inv j.z):=jp_r j.y b j.z _ (zi1 hz)
  have hi:=inv_ne hz
  by_cases hh:pH j a=0
  ·have ea:a=j.x*(inv j.z*inv j.z):=sub_zero_iff.1 (by rw [← eh,hh,zero_mul])
   rw [if_pos hh]
   by_cases hr:pR j b=0
   ·have eb:b=j.y*((inv j.z*inv j.z)*inv j.z):=sub_zero_iff.1 (by rw [← er,hr,zero_mul])
    rw [if_pos hr,ptJ_tw C hp]
    conv=>rhs;rw [ea,eb]
    rw [ptJ_ne hz]
   ·rw [if_neg hr,ptJ_zero (j:=⟨0,0,0⟩) rfl,ptJ_ne hz,add_pt,if_pos ea.symm,if_neg]
    rintro ⟨e,_⟩
    have:b-j.y*((inv j.z*inv j.z)*inv j.z)=0:=sub_zero_iff.2 e.symm
    rw [← er] at this
    exact mul_ne hr (mul_ne (mul_ne hi hi) hi) this
  ·rw [if_neg hh]
   have hax:a-j.x*(inv j.z*inv j.z)≠0:=by rw [← eh];exact mul_ne hh (mul_ne hi hi)
   have hZ:j.z*pH j a≠0:=mul_ne hz hh
   have hI:=jp_i j.z (pH j a) (inv j.z) (inv (j.z*pH j a)) (zi1 hz) (zi1 hZ)
   have hl:=jp_l j.x j.y a b _ _ _ _ hI eh er
   rw [ptJ_ne (j:=⟨pX j.x (pH j a) (pR j b),pY j.x j.y (pH j a) (pR j b),j.z*pH j a⟩) hZ,ptJ_ne hz,add_pt,if_neg (fun e=>hax (sub_zero_iff.2 e.symm)),div_eq hax hl]
   unfold sumAt
   have e1:=jp_x j.x j.y a (inv j.z) (inv (j.z*pH j a)) (pH j a) (pR j b) hI eh
   have e2:=jp_y j.x j.y a (inv j.z) (inv (j.z*pH j a)) (pH j a) (pR j b) hI eh
   rw [e1] at e2
   rw [e1,e2];rfl
end
end Go.Proofs.YtjlcdlekmpjjnaaGreat.Rg
/- Identities of commutative rings, read off by instances. -/
namespace Go.Proofs.YtjlcdlekmpjjnaaGreat.Rg
section
variable {F:Type} [CR F]
class At (xs:List F) (x:F) (i:outParam Nat):Prop where
 h:nth xs i=x
instance atTail {xs:List F} {x y:F} {i:Nat} [a:At xs x i]:At (y::xs) x (i+1):=⟨a.h⟩
instance (priority:=high) atHead {xs:List F} {x:F}:At (x::xs) x 0:=⟨rfl⟩
class Rf (xs:List F) (t:F) (e:outParam E):Prop where
 h:e.den xs=t
instance (priority:=low) rfV {xs:List F} {x:F} {i:Nat} [a:At xs x i]:Rf xs x (.v i):=⟨a.h⟩
instance rfAdd {xs:List F} {a b:F} {e f:E} [x:Rf xs a e] [y:Rf xs b f]:Rf xs (a+b) (.add e f):=⟨by rw [E.den,x.h,y.h]⟩
instance rfSub {xs:List F} {a b:F} {e f:E} [x:Rf xs a e] [y:Rf xs b f]:Rf xs (a-b) (.sub e f):=⟨by rw [E.den,x.h,y.h]⟩
instance rfMul {xs:List F} {a b:F} {e f:E} [x:Rf xs a e] [y:Rf xs b f]:Rf xs (a*b) (.mul e f):=⟨by rw [E.den,x.h,y.h]⟩
instance rfNeg {xs:List F} {a:F} {e:E} [x:Rf xs a e]:Rf xs (-a) (.neg e):=⟨by rw [E.den,x.h]⟩
instance rfPw {xs:List F} {a:F} {n:Nat} {e:E} [x:Rf xs a e]:Rf xs (pw a n) (.pw e n):=⟨by rw [E.den,x.h]⟩
instance rfInt {xs:List F} {i:Int}:Rf xs (int i) (.c i):=⟨rfl⟩
instance rfZero {xs:List F}:Rf xs 0 (.c 0):=⟨rfl⟩
instance rfOne {xs:List F}:Rf xs 1 (.c 1):=⟨int_one⟩
theorem ring (xs:List F) {a b:F} {e f:E} [x:Rf xs a e] [y:Rf xs b f] (h:nilP (E.pol (.sub e f))=true):a=b:=by
 rw [← x.h,← y.h];exact ident xs e f h
end
end Go.Proofs.YtjlcdlekmpjjnaaGreat.Rg
/- Extensions of rings and fields: by a square root, by a cube root. -/
namespace Go.Proofs.YtjlcdlekmpjjnaaGreat.Rg
set_option maxRecDepth 100000
set_option maxHeartbeats 4000000
set_option synthInstance.maxSize 100000
set_option synthInstance.maxHeartbeats 400000
set_option maxHeartbeats 1000000
structure Qx {F:Type} [CR F] (β:F) where
 a:F
 b:F
structure Kx {F:Type} [CR F] (ξ:F) where
 a:F
 b:F
 c:F
section
variable {F:Type} [CR F] {β ξ:F}
theorem Qx.ext {x y:Qx β} (h1:x.a=y.a) (h2:x.b=y.b):x=y:=by cases x;cases y;simp_all
theorem Kx.ext {x y:Kx ξ} (h1:x.a=y.a) (h2:x.b=y.b) (h3:x.c=y.c):x=y:=by cases x;cases y;simp_all
instance crQ:CR (Qx β) where
 add x y:=⟨x.a+y.a,x.b+y.b⟩
 mul x y:=⟨x.a*y.a+β*(x.b*y.b),x.a*y.b+x.b*y.a⟩
 neg x:=⟨-x.a,-x.b⟩
 sub x y:=⟨x.a-y.a,x.b-y.b⟩
 zero:=⟨0,0⟩
 one:=⟨1,0⟩
 add_assoc x y z:=Qx.ext (add_assoc _ _ _) (add_assoc _ _ _)
 add_comm x y:=Qx.ext (add_comm _ _) (add_comm _ _)
 zero_add x:=Qx.ext (zero_add _) (zero_add _)
 neg_add x:=Qx.ext (neg_add _) (neg_add _)
 mul_assoc x y z:=Qx.ext (ring [x.a,x.b,y.a,y.b,z.a,z.b,β] (a:=(x.a*y.a+β*(x.b*y.b))*z.a+β*((x.a*y.b+x.b*y.a)*z.b)) (b:=x.a*(y.a*z.a+β*(y.b*z.b))+β*(x.b*(y.a*z.b+y.b*z.a))) (by kernel_rfl))
  (ring [x.a,x.b,y.a,y.b,z.a,z.b,β] (a:=(x.a*y.a+β*(x.b*y.b))*z.b+(x.a*y.b+x.b*y.a)*z.a) (b:=x.a*(y.a*z.b+y.b*z.a)+x.b*(y.a*z.a+β*(y.b*z.b))) (by kernel_rfl))
 mul_comm x y:=Qx.ext (ring [x.a,x.b,y.a,y.b,β] (a:=x.a*y.a+β*(x.b*y.b)) (b:=y.a*x.a+β*(y.b*x.b)) (by kernel_rfl)) (ring [x.a,x.b,y.a,y.b] (a:=x.a*y.b+x.b*y.a) (b:=y.a*x.b+y.b*x.a) (by kernel_rfl))
 one_mul x:=Qx.ext (ring [x.a,x.b,β] (a:=1*x.a+β*(0*x.b)) (by kernel_rfl)) (ring [x.a,x.b] (a:=1*x.b+0*x.a) (by kernel_rfl))
 add_mul x y z:=Qx.ext (ring [x.a,x.b,y.a,y.b,z.a,z.b,β] (a:=(x.a+y.a)*z.a+β*((x.b+y.b)*z.b)) (b:=x.a*z.a+β*(x.b*z.b)+(y.a*z.a+β*(y.b*z.b))) (by kernel_rfl))
  (ring [x.a,x.b,y.a,y.b,z.a,z.b] (a:=(x.a+y.a)*z.b+(x.b+y.b)*z.a) (b:=x.a*z.b+x.b*z.a+(y.a*z.b+y.b*z.a)) (by kernel_rfl))
 sub_eq x y:=Qx.ext (sub_eq _ _) (sub_eq _ _)
instance crK:CR (Kx ξ) where
 add x y:=⟨x.a+y.a,x.b+y.b,x.c+y.c⟩
 mul x y:=⟨x.a*y.a+ξ*(x.b*y.c+x.c*y.b),x.a*y.b+x.b*y.a+ξ*(x.c*y.c),x.a*y.c+x.b*y.b+x.c*y.a⟩
 neg x:=⟨-x.a,-x.b,-x.c⟩
 sub x y:=⟨x.a-y.a,x.b-y.b,x.c-y.c⟩
 zero:=⟨0,0,0⟩
 one:=⟨1,0,0⟩
 add_assoc x y z:=Kx.ext (add_assoc _ _ _) (add_assoc _ _ _) (add_assoc _ _ _)
 add_comm x y:=Kx.ext (add_comm _ _) (add_comm _ _) (add_comm _ _)
 zero_add x:=Kx.ext (zero_add _) (zero_add _) (zero_add _)
 neg_add x:=Kx.ext (neg_add _) (neg_add _) (neg_add _)
 mul_assoc x y z:=Kx.ext
  (ring [x.a,x.b,x.c,y.a,y.b,y.c,z.a,z.b,z.c,ξ] (a:=(x.a*y.a+ξ*(x.b*y.c+x.c*y.b))*z.a+ξ*((x.a*y.b+x.b*y.a+ξ*(x.c*y.c))*z.c+(x.a*y.c+x.b*y.b+x.c*y.a)*z.b))
   (b:=x.a*(y.a*z.a+ξ*(y.b*z.c+y.c*z.b))+ξ*(x.b*(y.a*z.c+y.b*z.b+y.c*z.a)+x.c*(y.a*z.b+y.b*z.a+ξ*(y.c*z.c)))) (by kernel_rfl))
  (ring [x.a,x.b,x.c,y.a,y.b,y.c,z.a,z.b,z.c,ξ] (a:=(x.a*y.a+ξ*(x.b*y.c+x.c*y.b))*z.b+(x.a*y.b+x.b*y.a+ξ*(x.c*y.c))*z.a+ξ*((x.a*y.c+x.b*y.b+x.c*y.a)*z.c))
   (b:=x.a*(y.a*z.b+y.b*z.a+ξ*(y.c*z.c))+x.b*(y.a*z.a+ξ*(y.b*z.c+y.c*z.b))+ξ*(x.c*(y.a*z.c+y.b*z.b+y.c*z.a))) (by kernel_rfl))
  (ring [x.a,x.b,x.c,y.a,y.b,y.c,z.a,z.b,z.c,ξ] (a:=(x.a*y.a+ξ*(x.b*y.c+x.c*y.b))*z.c+(x.a*y.b+x.b*y.a+ξ*(x.c*y.c))*z.b+(x.a*y.c+x.b*y.b+x.c*y.a)*z.a)
   (b:=x.a*(y.a*z.c+y.b*z.b+y.c*z.a)+x.b*(y.a*z.b+y.b*z.a+ξ*(y.c*z.c))+x.c*(y.a*z.a+ξ*(y.b*z.c+y.c*z.b))) (by kernel_rfl))
 mul_comm x y:=Kx.ext (ring [x.a,x.b,x.c,y.a,y.b,y.c,ξ] (a:=x.a*y.a+ξ*(x.b*y.c+x.c*y.b)) (b:=y.a*x.a+ξ*(y.b*x.c+y.c*x.b)) (by kernel_rfl))
  (ring [x.a,x.b,x.c,y.a,y.b,y.c,ξ] (a:=x.a*y.b+x.b*y.a+ξ*(x.c*y.c)) (b:=y.a*x.b+y.b*x.a+ξ*(y.c*x.c)) (by kernel_rfl))
  (ring [x.a,x.b,x.c,y.a,y.b,y.c] (a:=x.a*y.c+x.b*y.b+x.c*y.a) (b:=y.a*x.c+y.b*x.b+y.c*x.a) (by kernel_rfl))
 one_mul x:=Kx.ext (ring [x.a,x.b,x.c,ξ] (a:=1*x.a+ξ*(0*x.c+0*x.b)) (by kernel_rfl)) (ring [x.a,x.b,x.c,ξ] (a:=1*x.b+0*x.a+ξ*(0*x.c)) (by kernel_rfl)) (ring [x.a,x.b,x.c] (a:=1*x.c+0*x.b+0*x.a) (by kernel_rfl))
 add_mul x y z:=Kx.ext (ring [x.a,x.b,x.c,y.a,y.b,y.c,z.a,z.b,z.c,ξ] (a:=(x.a+y.a)*z.a+ξ*((x.b+y.b)*z.c+(x.c+y.c)*z.b)) (b:=x.a*z.a+ξ*(x.b*z.c+x.c*z.b)+(y.a*z.a+ξ*(y.b*z.c+y.c*z.b))) (by kernel_rfl))
  (ring [x.a,x.b,x.c,y.a,y.b,y.c,z.a,z.b,z.c,ξ] (a:=(x.a+y.a)*z.b+(x.b+y.b)*z.a+ξ*((x.c+y.c)*z.c)) (b:=x.a*z.b+x.b*z.a+ξ*(x.c*z.c)+(y.a*z.b+y.b*z.a+ξ*(y.c*z.c))) (by kernel_rfl))
  (ring [x.a,x.b,x.c,y.a,y.b,y.c,z.a,z.b,z.c] (a:=(x.a+y.a)*z.c+(x.b+y.b)*z.b+(x.c+y.c)*z.a) (b:=x.a*z.c+x.b*z.b+x.c*z.a+(y.a*z.c+y.b*z.b+y.c*z.a)) (by kernel_rfl))
 sub_eq x y:=Kx.ext (sub_eq _ _) (sub_eq _ _) (sub_eq _ _)
def Qx.conj (x:Qx β):Qx β:=⟨x.a,-x.b⟩
def Qx.nrm (x:Qx β):F:=x.a*x.a-β*(x.b*x.b)
theorem Qx.nrm_mul (x y:Qx β):(x*y).nrm=x.nrm*y.nrm :=
 ring [x.a,x.b,y.a,y.b,β] (a:=(x.a*y.a+β*(x.b*y.b))*(x.a*y.a+β*(x.b*y.b))-β*((x.a*y.b+x.b*y.a)*(x.a*y.b+x.b*y.a))) (b:=(x.a*x.a-β*(x.b*x.b))*(y.a*y.a-β*(y.b*y.b))) (by kernel_rfl)
def Kx.adj (x:Kx ξ):Kx ξ:=⟨x.a*x.a-ξ*(x.b*x.c),ξ*(x.c*x.c)-x.a*x.b,x.b*x.b-x.a*x.c⟩
def Kx.nrm (x:Kx ξ):F:=x.a*x.adj.a+ξ*(x.c*x.adj.b+x.b*x.adj.c)
theorem Kx.mul_adj (x:Kx ξ):x*x.adj=⟨x.nrm,0,0⟩ :=
 Kx.ext (ring [x.a,x.b,x.c,ξ] (a:=x.a*(x.a*x.a-ξ*(x.b*x.c))+ξ*(x.b*(x.b*x.b-x.a*x.c)+x.c*(ξ*(x.c*x.c)-x.a*x.b))) (b:=x.a*(x.a*x.a-ξ*(x.b*x.c))+ξ*(x.c*(ξ*(x.c*x.c)-x.a*x.b)+x.b*(x.b*x.b-x.a*x.c))) (by kernel_rfl))
  (ring [x.a,x.b,x.c,ξ] (a:=x.a*(ξ*(x.c*x.c)-x.a*x.b)+x.b*(x.a*x.a-ξ*(x.b*x.c))+ξ*(x.c*(x.b*x.b-x.a*x.c))) (b:=0) (by kernel_rfl))
  (ring [x.a,x.b,x.c,ξ] (a:=x.a*(x.b*x.b-x.a*x.c)+x.b*(ξ*(x.c*x.c)-x.a*x.b)+x.c*(x.a*x.a-ξ*(x.b*x.c))) (b:=0) (by kernel_rfl))
theorem Kx.nrm_mul (x y:Kx ξ):(x*y).nrm=x.nrm*y.nrm :=
 ring [x.a,x.b,x.c,y.a,y.b,y.c,ξ] (a:=(x.a*y.a+ξ*(x.b*y.c+x.c*y.b))*((x.a*y.a+ξ*(x.b*y.c+x.c*y.b))*(x.a*y.a+ξ*(x.b*y.c+x.c*y.b))-ξ*((x.a*y.b+x.b*y.a+ξ*(x.c*y.c))*(x.a*y.c+x.b*y.b+x.c*y.a))) +
  ξ*((x.a*y.c+x.b*y.b+x.c*y.a)*(ξ*((x.a*y.c+x.b*y.b+x.c*y.a)*(x.a*y.c+x.b*y.b+x.c*y.a))-(x.a*y.a+ξ*(x.b*y.c+x.c*y.b))*(x.a*y.b+x.b*y.a+ξ*(x.c*y.c))) +
   (x.a*y.b+x.b*y.a+ξ*(x.c*y.c))*((x.a*y.b+x.b*y.a+ξ*(x.c*y.c))*(x.a*y.b+x.b*y.a+ξ*(x.c*y.c))-(x.a*y.a+ξ*(x.b*y.c+x.c*y.b))*(x.a*y.c+x.b*y.b+x.c*y.a))))
  (b:=(x.a*(x.a*x.a-ξ*(x.b*x.c))+ξ*(x.c*(ξ*(x.c*x.c)-x.a*x.b)+x.b*(x.b*x.b-x.a*x.c)))*(y.a*(y.a*y.a-ξ*(y.b*y.c))+ξ*(y.c*(ξ*(y.c*y.c)-y.a*y.b)+y.b*(y.b*y.b-y.a*y.c)))) (by kernel_rfl)
end
section
variable {F:Type} [FD F] {β ξ:F}
open FD (inv)
instance decQ:DecidableEq (Qx β):=fun x y=>if h:x.a=y.a∧x.b=y.b then isTrue (Qx.ext h.1 h.2) else isFalse fun e=>h (by rw [e];exact ⟨rfl,rfl⟩)
instance decK:DecidableEq (Kx ξ):=fun x y=>if h:x.a=y.a∧x.b=y.b∧x.c=y.c then isTrue (Kx.ext h.1 h.2.1 h.2.2) else isFalse fun e=>h (by rw [e];exact ⟨rfl,rfl,rfl⟩)
theorem zero_or {a b:F} (h:a*b=0):a=0∨b=0:=by
 by_cases e:a=0
 ·exact .inl e
 ·exact .inr (zero_of_mul e h)
theorem Qx.nrm_ne (hβ:∀ x:F,x*x≠β) {x:Qx β} (h:x.nrm=0):x=⟨0,0⟩:=by
 by_cases hb:x.b=0
 ·have:x.a*x.a=0:=by
   have h':=h
   unfold Qx.nrm at h'
   rw [hb,mul_zero,mul_zero,sub_zero_iff] at h'
   exact h'
  rcases zero_or this with e | e<;>exact Qx.ext e hb
 ·exfalso
  refine hβ (x.a*inv x.b) ?_
  have h':=sub_zero_iff.1 h
  have hi:=FD.mul_inv x.b hb
  calc x.a*inv x.b*(x.a*inv x.b)=(x.a*x.a)*(inv x.b*inv x.b):=ring [x.a,inv x.b] (by kernel_rfl)
   _=β*((x.b*inv x.b)*(x.b*inv x.b)):=by rw [h'];exact ring [x.b,inv x.b,β] (by kernel_rfl)
   _=β:=by rw [hi,mul_one,mul_one]
def invQ (x:Qx β):Qx β:=⟨x.a*inv x.nrm,-x.b*inv x.nrm⟩
@[reducible] def fdQ (hβ:∀ x:F,x*x≠β):FD (Qx β) where
 inv:=invQ
 mul_inv x h:=by
  have hi:=FD.mul_inv x.nrm fun e=>h (Qx.nrm_ne hβ e)
  exact Qx.ext (Eq.trans (ring [x.a,x.b,inv x.nrm,β] (a:=x.a*(x.a*inv x.nrm)+β*(x.b*(-x.b*inv x.nrm))) (b:=(x.a*x.a-β*(x.b*x.b))*inv x.nrm) (by kernel_rfl)) hi)
   (ring [x.a,x.b,inv x.nrm] (a:=x.a*(-x.b*inv x.nrm)+x.b*(x.a*inv x.nrm)) (b:=0) (by kernel_rfl))
 inv_zero:=Qx.ext (zero_mul _) (by show -(0:F)*_=0;rw [neg_zero,zero_mul])
 one_ne h:=FD.one_ne (F:=F) (congrArg Qx.a h)
 dec:=decQ
theorem no_cube_of {a b c:F} (hξ:∀ x:F,x*x*x≠ξ) (hc:c≠0) (h1:ξ*(c*c)=a*b) (h2:c*a=b*b):False:=by
 refine hξ (b*inv c) ?_
 have hi:=FD.mul_inv c hc
 calc b*inv c*(b*inv c)*(b*inv c)=(b*b)*b*(inv c*inv c*inv c):=ring [b,inv c] (by kernel_rfl)
  _=(a*b)*(c*inv c)*(inv c*inv c):=by rw [← h2];exact ring [a,b,c,inv c] (by kernel_rfl)
  _=ξ*((c*inv c)*(c*inv c)*(c*inv c)):=by rw [← h1];exact ring [c,inv c,ξ] (by kernel_rfl)
  _=ξ:=by rw [hi,mul_one,mul_one,mul_one]
theorem Kx.smul_zero {d:F} (hd:d≠0) {y:Kx ξ} (h:(⟨d,0,0⟩:Kx ξ)*y=⟨0,0,0⟩):y=⟨0,0,0⟩:=by
 have h1:d*y.a+ξ*(0*y.c+0*y.b)=0:=congrArg Kx.a h
 have h2:d*y.b+0*y.a+ξ*(0*y.c)=0:=congrArg Kx.b h
 have h3:d*y.c+0*y.b+0*y.a=0:=congrArg Kx.c h
 simp only [zero_mul,add_zero,mul_zero] at h1 h2 h3
 exact Kx.ext (zero_of_mul hd h1) (zero_of_mul hd h2) (zero_of_mul hd h3)
theorem Kx.lin_zero (hξ:∀ x:F,x*x*x≠ξ) {d e:F} {y:Kx ξ} (h:(⟨d,e,0⟩:Kx ξ)*y=⟨0,0,0⟩) (hde:¬ (d=0∧e=0)):y=⟨0,0,0⟩:=by
 by_cases he:e=0
 ·subst he;exact Kx.smul_zero (fun q=>hde ⟨q,rfl⟩) h
 ·refine Kx.smul_zero (d:=d*d*d+ξ*(e*e*e)) (fun q=>?_) ?_
  ·refine hξ (-d*inv e) ?_
   have hi:=FD.mul_inv e he
   have q':d*d*d=-(ξ*(e*e*e)):=neg_unique (by rw [add_comm];exact q)
   calc -d*inv e*(-d*inv e)*(-d*inv e)=-(d*d*d)*(inv e*inv e*inv e):=ring [d,inv e] (by kernel_rfl)
    _=ξ*((e*inv e)*(e*inv e)*(e*inv e)):=by rw [q'];exact ring [e,inv e,ξ] (by kernel_rfl)
    _=ξ:=by rw [hi,mul_one,mul_one,mul_one]
  ·have e1:(⟨d*d*d+ξ*(e*e*e),0,0⟩:Kx ξ)=⟨d*d,-(d*e),e*e⟩*⟨d,e,0⟩ :=
    Kx.ext (ring [d,e,ξ] (b:=d*d*d+ξ*(-(d*e)*0+e*e*e)) (by kernel_rfl)) (ring [d,e,ξ] (a:=0) (b:=d*d*e+-(d*e)*d+ξ*(e*e*0)) (by kernel_rfl)) (ring [d,e,ξ] (a:=0) (b:=d*d*0+-(d*e)*e+e*e*d) (by kernel_rfl))
   rw [e1,mul_assoc,h]
   exact mul_zero (F:=Kx ξ) _
theorem Kx.mul_zero_of (hξ:∀ x:F,x*x*x≠ξ) {x y:Kx ξ} (h:x*y=⟨0,0,0⟩) (hx:x≠⟨0,0,0⟩):y=⟨0,0,0⟩:=by
 by_cases hc:x.c=0
 ·refine Kx.lin_zero hξ (d:=x.a) (e:=x.b) ?_ fun q=>hx (Kx.ext q.1 q.2 hc)
  have e:(⟨x.a,x.b,0⟩:Kx ξ)=x:=Kx.ext rfl rfl hc.symm
  rw [e];exact h
 ·have e1:(⟨ξ*(x.c*x.c)-x.a*x.b,x.c*x.a-x.b*x.b,0⟩:Kx ξ)=⟨-x.b,x.c,0⟩*x :=
   Kx.ext (ring [x.a,x.b,x.c,ξ] (a:=ξ*(x.c*x.c)-x.a*x.b) (b:=-x.b*x.a+ξ*(x.c*x.c+0*x.b)) (by kernel_rfl)) (ring [x.a,x.b,x.c,ξ] (a:=x.c*x.a-x.b*x.b) (b:=-x.b*x.b+x.c*x.a+ξ*(0*x.c)) (by kernel_rfl))
    (ring [x.a,x.b,x.c] (a:=0) (b:=-x.b*x.c+x.c*x.b+0*x.a) (by kernel_rfl))
  refine Kx.lin_zero hξ (d:=ξ*(x.c*x.c)-x.a*x.b) (e:=x.c*x.a-x.b*x.b) ?_ fun q=>no_cube_of hξ hc (sub_zero_iff.1 q.1) (sub_zero_iff.1 q.2)
  rw [e1,mul_assoc,h]
  exact mul_zero (F:=Kx ξ) _
theorem Kx.nrm_ne (hξ:∀ x:F,x*x*x≠ξ) {x:Kx ξ} (h:x.nrm=0):x=⟨0,0,0⟩:=by
 by_cases hx:x=⟨0,0,0⟩
 ·exact hx
 ·exfalso
  have hm:=x.mul_adj
  rw [h] at hm
  have ha:=Kx.mul_zero_of hξ hm hx
  have h2:ξ*(x.c*x.c)-x.a*x.b=0:=congrArg Kx.b ha
  have h3:x.b*x.b-x.a*x.c=0:=congrArg Kx.c ha
  have h1:x.a*x.a-ξ*(x.b*x.c)=0:=congrArg Kx.a ha
  by_cases hc:x.c=0
  ·rw [hc,mul_zero,mul_zero,sub_zero_iff] at h1
   rw [hc,mul_zero,sub_zero_iff] at h3
   exact hx (Kx.ext ((zero_or h1).elim id id) ((zero_or h3).elim id id) hc)
  ·exact no_cube_of hξ hc (sub_zero_iff.1 h2) (by rw [mul_comm];exact (sub_zero_iff.1 h3).symm)
def invK (x:Kx ξ):Kx ξ:=⟨x.adj.a*inv x.nrm,x.adj.b*inv x.nrm,x.adj.c*inv x.nrm⟩
theorem invK_eq (x:Kx ξ):invK x=x.adj*⟨inv x.nrm,0,0⟩ :=
 Kx.ext (ring [x.adj.a,x.adj.b,x.adj.c,inv x.nrm,ξ] (a:=x.adj.a*inv x.nrm) (b:=x.adj.a*inv x.nrm+ξ*(x.adj.b*0+x.adj.c*0)) (by kernel_rfl)) (ring [x.adj.a,x.adj.b,x.adj.c,inv x.nrm,ξ] (a:=x.adj.b*inv x.nrm) (b:=x.adj.a*0+x.adj.b*inv x.nrm+ξ*(x.adj.c*0)) (by kernel_rfl))
  (ring [x.adj.a,x.adj.b,x.adj.c,inv x.nrm] (a:=x.adj.c*inv x.nrm) (b:=x.adj.a*0+x.adj.b*0+x.adj.c*inv x.nrm) (by kernel_rfl))
@[reducible] def fdK (hξ:∀ x:F,x*x*x≠ξ):FD (Kx ξ) where
 inv:=invK
 mul_inv x h:=by
  have hi:=FD.mul_inv x.nrm fun e=>h (Kx.nrm_ne hξ e)
  rw [invK_eq,← mul_assoc,x.mul_adj]
  exact Kx.ext (Eq.trans (ring [x.nrm,inv x.nrm,ξ] (a:=x.nrm*inv x.nrm+ξ*(0*0+0*0)) (b:=x.nrm*inv x.nrm) (by kernel_rfl)) hi) (ring [x.nrm,inv x.nrm,ξ] (a:=x.nrm*0+0*inv x.nrm+ξ*(0*0)) (b:=0) (by kernel_rfl)) (ring [x.nrm,inv x.nrm] (a:=x.nrm*0+0*0+0*inv x.nrm) (b:=0) (by kernel_rfl))
 inv_zero:=by
  have h0:(0:Kx ξ).adj=0:=Kx.ext (ring [ξ] (a:=0*0-ξ*(0*0)) (b:=(0:F)) (by kernel_rfl)) (ring [ξ] (a:=ξ*(0*0)-0*0) (b:=(0:F)) (by kernel_rfl)) (ring [ξ] (a:=0*0-0*0) (b:=(0:F)) (by kernel_rfl))
  rw [invK_eq,h0,zero_mul]
 one_ne h:=FD.one_ne (F:=F) (congrArg Kx.a h)
 dec:=decK
end
end Go.Proofs.YtjlcdlekmpjjnaaGreat.Rg
/- Numbers modulo p as a field; the curve y*y = x*x*x + 4. -/
namespace Go.Proofs.YtjlcdlekmpjjnaaGreat
open Ex Num
set_option maxRecDepth 100000
set_option maxHeartbeats 4000000
abbrev FP:Type:=Fin pN
theorem tf_val (a:FP):tf a.val=a:=by
 rw [Fin.ext_iff];show a.val % pN=a.val;exact Nat.mod_eq_of_lt a.isLt
theorem val_tf {x:Nat} (h:x<pN):(tf x).val=x:=Nat.mod_eq_of_lt h
theorem val_eq {x:Nat} {a:FP} (hx:x<pN) (h:tf x=a):x=a.val:=by rw [← h,val_tf hx]
noncomputable def invF (a:FP):FP:=tf (invN a.val)
theorem invF_mul {a:FP} (h:a≠0):a*invF a=1:=by
 have hz:a.val % pN≠0:=fun e=>h (by
  have:=tf_ne_zero.2 e
  rwa [tf_val] at this)
 have:=tf_invN hz
 rwa [tf_val] at this
theorem invF_zero:invF 0=0:=by
 unfold invF
 have:invN (0:FP).val=0:=invN_zero rfl
 rw [this];exact tf_zero
theorem one_ne_F:(1:FP)≠0:=fun h=>by
 have:=tf_lt (show 1<pN by decide) pN_pos (by rw [tf_one,tf_zero];exact h)
 cases this
noncomputable instance fdFP:Rg.FD FP where
 add_assoc a b c:=by grind
 add_comm a b:=by grind
 zero_add a:=by grind
 neg_add a:=by grind
 mul_assoc a b c:=by grind
 mul_comm a b:=by grind
 one_mul a:=by grind
 add_mul a b c:=by grind
 sub_eq a b:=by grind
 inv:=invF
 mul_inv a h:=invF_mul h
 inv_zero:=invF_zero
 one_ne:=one_ne_F
 dec:=inferInstance
theorem int2:(Rg.int 2:FP)=1+1:=by
 show (0:FP)+1+1=1+1
 grind
def cub (m:Nat):Bool:=Nat.beq (pmod pN (pN-m) 384 ((pN-1) / 3)) 1
theorem cub4:cub 4=false:=by kernel_rfl
theorem p3:(pN-1) / 3*3=pN-1:=by kernel_rfl
theorem p3_lt:Nat.blt ((pN-1) / 3) RR=true:=by kernel_rfl
theorem no_cube {m:Nat} (hm:m<pN) (h0:0<m) (hc:cub m=false) (x:Nat):(x^3+m) % pN≠0:=by
 intro h
 have hx:x^3 % pN=pN-m:=by
  have h1:=modp_lt (x^3)
  rw [Nat.add_mod,Nat.mod_eq_of_lt hm] at h
  have h2:x^3 % pN+m=pN:=by
   have hd:=Nat.dvd_of_mod_eq_zero h
   obtain ⟨k,hk⟩:=hd
   have:k=1:=by
    rcases Nat.lt_or_ge k 1 with q | q
    ·rw [show k=0 by omega,Nat.mul_zero] at hk;omega
    ·rcases Nat.lt_or_ge k 2 with q2 | q2
     ·omega
     ·have:=Nat.mul_le_mul_left pN q2
      omega
   rw [this,Nat.mul_one] at hk
   exact hk
  omega
 have hnd:¬ pN∣x:=fun hd=>by
  obtain ⟨k,hk⟩:=hd
  have:x^3 % pN=0:=by rw [hk,Nat.mul_pow,Nat.pow_succ,Nat.mul_comm (pN^2),Nat.mul_assoc,Nat.mul_mod_right]
  omega
 have hf:=fermat pN_prime hnd
 rw [← p3,Nat.mul_comm,Nat.pow_mul,Nat.pow_mod,hx,← pmod_eq pN 384 (pN-m) ((pN-1) / 3) (by rw [pow_fuel];exact nblt.1 p3_lt)] at hf
 unfold cub at hc
 rw [hf] at hc
 cases hc
noncomputable def four:FP:=tf 4
noncomputable def C1:Rg.Cv FP where
 b:=four
 two:=by
  rw [int2]
  have h2:tf 2=1+1:=by rw [← tf_one,← tf_add]
  rw [← h2]
  intro h
  have:=tf_lt (show 2<pN by decide) pN_pos (by rw [h,tf_zero])
  cases this
 no2:=fun x y h hy=>by
  subst hy
  have h1:x*x*x+four=0:=by
   rw [← h]
   grind
  have h2:tf (x.val^3+4)=0:=by
   rw [tf_add,Nat.pow_succ,Nat.pow_succ,Nat.pow_one,tf_mul,tf_mul,tf_val]
   exact h1
  exact no_cube (by decide) (by decide) cub4 x.val (tf_ne_zero.1 h2)
end Go.Proofs.YtjlcdlekmpjjnaaGreat
/- Points told by their cells; g1: b, Base, Reduce, Neg, On. -/
namespace Go.Proofs.YtjlcdlekmpjjnaaGreat
open Ex Num Rg
set_option maxRecDepth 100000
set_option maxHeartbeats 4000000
def g1A (x y:Nat) (i:Bool):AV:=.val true [.num 6 x,.num 6 y,.v (.bool i)]
def asG1 (cs:List Ch):Option (Nat×Nat×Bool):=match splitCh cs 6 with
 | some (a,r)=>match splitCh r 6 with
  | some (b,[c])=>match asNum 6 a,asNum 6 b,asB (some (.val false [c])) with
   | some x,some y,some (_,i)=>some (x,y,i)
   | _,_,_=>none
  | _=>none
 | none=>none
theorem asG1_rel {β β':Env} {cs:List Ch} {x y:Nat} {i:Bool} {u:Value} (h:asG1 cs=some (x,y,i)) (hr:relA β (.val true cs) u):relA β' (g1A x y i) u∧x<RR∧y<RR:=by
 unfold asG1 at h
 split at h
 case h_2=>cases h
 rename_i a r h1
 split at h
 case h_2=>cases h
 rename_i b c h2
 split at h
 case h_2=>cases h
 rename_i x' y' c0 i' h3 h4 h5
 injection h with h;injection h with e1 h;injection h with e2 e3
 subst e1;subst e2;subst e3
 obtain ⟨l,hl,rfl⟩:=hr
 obtain ⟨q1,q2,q3⟩:=split_rel h1 hl
 obtain ⟨r1,r2,r3⟩:=split_rel h2 q2
 obtain ⟨ea,la⟩:=asNum_rel h3 q1
 obtain ⟨eb,lb⟩:=asNum_rel h4 r1
 obtain ⟨l1,l2,hc1,hc2,hc3⟩:=r2
 simp only [relL] at hc2
 subst hc2
 have hlen:=relC_length hc1
 have hsz:szC c=1:=by
  unfold asB at h5
  split at h5
  ·rename_i _ _ hq;injection hq with hq;injection hq with _ hq;injection hq with hq _;rw [hq];rfl
  ·rename_i _ _ hq;injection hq with hq;injection hq with _ hq;injection hq with hq _;rw [hq];rfl
  ·cases h5
 rw [hsz] at hlen
 obtain ⟨w,rfl⟩:=List.length_eq_one_iff.1 hlen
 have hw:w=.bool i':=asB_rel (β:=β) (u:=w) (fun A hA=>by injection hA with hA;subst hA;exact ⟨[w],[],hc1,rfl,rfl⟩) h5
 subst hw
 rw [RR_eq]
 refine ⟨⟨l,⟨_,_,⟨la,rfl⟩,⟨_,_,⟨lb,rfl⟩,⟨[.bool i'],[],⟨rfl,rfl,trivial⟩,rfl,rfl⟩,rfl⟩,?_⟩,rfl⟩,la,lb⟩
 rw [← ea,← eb,← hc3,List.take_append_drop,List.take_append_drop]
def toPt (x y:Nat) (i:Bool):Pt FP:=match i with
 | true=>.inf
 | false=>.pt (tf x) (tf y)
def ptX:Pt FP→Nat
 | .inf=>0
 | .pt a _=>a.val
def ptY:Pt FP→Nat
 | .inf=>0
 | .pt _ b=>b.val
def ptI:Pt FP→Bool
 | .inf=>true
 | .pt _ _=>false
def g1V (P:Pt FP):AV:=g1A (ptX P) (ptY P) (ptI P)
theorem ptX_lt (P:Pt FP):ptX P<pN:=by cases P with | inf=>exact pN_pos | pt a b=>exact a.isLt
theorem ptY_lt (P:Pt FP):ptY P<pN:=by cases P with | inf=>exact pN_pos | pt a b=>exact b.isLt
theorem toPt_of (P:Pt FP):toPt (ptX P) (ptY P) (ptI P)=P:=by
 cases P with
 | inf=>rfl
 | pt a b=>show Pt.pt (tf a.val) (tf b.val)=_;rw [tf_val,tf_val]
theorem g1V_pt (x y:Nat):g1V (.pt (tf x) (tf y))=g1A (x % pN) (y % pN) false:=rfl
theorem g1V_mk {x y:Nat} {a b:FP} (hx:x<pN) (hy:y<pN) (ha:tf x=a) (hb:tf y=b):g1A x y false=g1V (.pt a b):=by
 rw [← ha,← hb,g1V_pt,Nat.mod_eq_of_lt hx,Nat.mod_eq_of_lt hy]
theorem pure_g1 {P:Program} {f:FuncId} {args:List AV} {cs:List Ch} {x y:Nat} {i:Bool} (h:PureOk P f args (.val true cs)) (hc:asG1 cs=some (x,y,i)):PureOk P f args (g1A x y i):=pure_val h fun _ hu=>(asG1_rel hc hu).1
def spG (g:Pt FP→AV):List AV→Option AV
 | [.val true a]=>match asG1 a with
  | some (x,y,i)=>some (g (toPt x y i))
  | none=>none
 | _=>none
theorem spG_ok {f:FuncId} {g:Pt FP→AV} (h:∀ x y i,PureOk Tryz.prog f [g1A x y i] (g (toPt x y i))):∀ args v,spG g args=some v→PureOk Tryz.prog f args v:=by
 intro args v hs us w ha
 unfold spG at hs
 split at hs
 case h_2=>cases hs
 rename_i a
 split at hs
 case h_2=>cases hs
 rename_i x y i hx
 injection hs with hs;subst hs
 obtain ⟨u1,us1,r1,ha,rfl⟩:=ha
 exact h x y i _ w ⟨u1,_,(asG1_rel hx r1).1,ha,rfl⟩
theorem g1b_run:pureRun Tryz.prog (orc S0 K0) Tryz.f132 [] [] 100=some ([],.val true [.n .u64 4,.n .u64 0,.n .u64 0,.n .u64 0,.n .u64 0,.n .u64 0]):=by kernel_rfl
theorem g1b_ok:PureOk Tryz.prog 132 [] (num6 4):=pure_val (pure_ok (orc_ok S0ok K0ok) mixed Tryz.func132 g1b_run trivial rfl) fun u hu=>num6_of (by kernel_rfl) hu
def gX:Nat:=0x17f1d3a73197d7942695638c4fa9ac0fc3688c4f9774b905a14e3a3f171bac586c55e83ff97a1aeffb3af00adb22c6bb
def gY:Nat:=0x08b3f481e3aaa0f1a09e30ed741d8ae4fcf5e095d5d00af600db18cb2c04b3edd03cc744a2888ae40caa232946c5e7e1
def gC:List Ch:=[.n .u64 0xfb3af00adb22c6bb,.n .u64 0x6c55e83ff97a1aef,.n .u64 0xa14e3a3f171bac58,.n .u64 0xc3688c4f9774b905,.n .u64 0x2695638c4fa9ac0f,.n .u64 0x17f1d3a73197d794,
 .n .u64 0xcaa232946c5e7e1,.n .u64 0xd03cc744a2888ae4,.n .u64 0xdb18cb2c04b3ed,.n .u64 0xfcf5e095d5d00af6,.n .u64 0xa09e30ed741d8ae4,.n .u64 0x8b3f481e3aaa0f1,.b false]
theorem base_run:pureRun Tryz.prog (orc S0 K0) Tryz.f23 [] [] 100=some ([],.val true gC):=by kernel_rfl
def G1B:Pt FP:=.pt (tf gX) (tf gY)
theorem gX_lt:Nat.blt gX pN=true:=by kernel_rfl
theorem gY_lt:Nat.blt gY pN=true:=by kernel_rfl
theorem G1B_A:g1A gX gY false=g1V G1B:=g1V_mk (nblt.1 gX_lt) (nblt.1 gY_lt) rfl rfl
theorem base_ok:PureOk Tryz.prog 23 [] (g1V G1B):=by
 rw [← G1B_A]
 exact pure_g1 (pure_ok (orc_ok S0ok K0ok) mixed Tryz.func23 base_run trivial rfl) (by kernel_rfl)
def zero12 (i:Bool):List Ch:=[.n .u64 0,.n .u64 0,.n .u64 0,.n .u64 0,.n .u64 0,.n .u64 0,.n .u64 0,.n .u64 0,.n .u64 0,.n .u64 0,.n .u64 0,.n .u64 0,.b i]
theorem gred_inf (x y:Nat) (i:Bool):pureRun Tryz.prog (orc SE K0) Tryz.f69 [g1A x y i] [true] 300=some ([(i,true)],.val true (zero12 true)):=by kernel_rfl
theorem gred_pt (x y:Nat) (i:Bool):pureRun Tryz.prog (orc SE K0) Tryz.f69 [g1A x y i] [false] 300=some ([(i,false)],.val true [.num 6 (x % pN),.num 6 (y % pN),.b false]):=by kernel_rfl
theorem gred_ok (x y:Nat) (i:Bool):PureOk Tryz.prog 69 [g1A x y i] (g1V (toPt x y i)):=by
 cases i with
 | true=>exact pure_g1 (pure_ok (orc_ok SEok K0ok) mixed Tryz.func69 (gred_inf x y true) ⟨rfl,trivial⟩ rfl) (by kernel_rfl)
 | false=>exact pure_g1 (pure_ok (orc_ok SEok K0ok) mixed Tryz.func69 (gred_pt x y false) ⟨rfl,trivial⟩ rfl) (by kernel_rfl)
noncomputable def SG0:List (FuncId×ASpec):=(132,pureSpec fun args=>match args with | []=>some (num6 4) | _=>none)::(23,pureSpec fun args=>match args with | []=>some (g1V G1B) | _=>none)::(69,pureSpec (spG g1V))::SE
theorem SG0ok:SpecsOk Tryz.prog SG0:=⟨pureSpec_ok Tryz.func132 (by kernel_rfl) (by kernel_rfl) (sp0_ok g1b_ok fun u h=>h),pureSpec_ok Tryz.func23 (by kernel_rfl) (by kernel_rfl) (sp0_ok base_ok fun u h=>h),pureSpec_ok Tryz.func69 (by kernel_rfl) (by kernel_rfl) (spG_ok gred_ok),SEok⟩
end Go.Proofs.YtjlcdlekmpjjnaaGreat
/- g1: Neg, On, Add: the contracts. -/
namespace Go.Proofs.YtjlcdlekmpjjnaaGreat
open Ex Num Rg
set_option maxRecDepth 100000
set_option maxHeartbeats 4000000
theorem tf_inv {n:Nat} (h:n<pN):tf (invN n)=invF (tf n):=by unfold invF;rw [val_tf h]
theorem val_zero {b:FP}:b.val=0↔b=0:=by rw [Fin.ext_iff];exact Iff.rfl
noncomputable def onP:Pt FP→Bool
 | .inf=>true
 | .pt a b=>decide (b*b=a*a*a+four)
theorem onP_iff (P:Pt FP):onP P=true↔Rg.On C1.b P:=by
 cases P with
 | inf=>exact ⟨fun _=>trivial,fun _=>rfl⟩
 | pt a b=>exact decide_eq_true_iff
theorem on_inf_run (x y:Nat) (i:Bool):pureRun Tryz.prog (orc SG0 K0) Tryz.f70 [g1A x y i] [true] 300=some ([(i,true)],.val false [.b true]):=by kernel_rfl
theorem on_pt_run (x y:Nat) (i:Bool):pureRun Tryz.prog (orc SG0 K0) Tryz.f70 [g1A x y i] [false] 300=some ([(i,false)],boolA (decide (mulN y y=addN (mulN (mulN x x) x) 4))):=by kernel_rfl
theorem on_eqN (x y:Nat):decide (mulN y y=addN (mulN (mulN x x) x) 4)=onP (toPt x y false):=by
 have e:(mulN y y=addN (mulN (mulN x x) x) 4)↔(tf y*tf y=tf x*tf x*tf x+four):=by
  constructor
  ·intro h
   have:=congrArg tf h
   simpa [tf_mulN,tf_addN,four] using this
  ·intro h
   exact tf_lt (mulN_lt _ _) (addN_lt _ _) (by simpa [tf_mulN,tf_addN,four] using h)
 show _=decide (tf y*tf y=tf x*tf x*tf x+four)
 by_cases h:mulN y y=addN (mulN (mulN x x) x) 4
 ·rw [decide_eq_true h,decide_eq_true (e.1 h)]
 ·rw [decide_eq_false h,decide_eq_false fun q=>h (e.2 q)]
theorem gon_ok (x y:Nat) (i:Bool):PureOk Tryz.prog 70 [g1A x y i] (boolA (onP (toPt x y i))):=by
 cases i with
 | true=>exact pure_val (pure_ok (orc_ok SG0ok K0ok) mixed Tryz.func70 (on_inf_run x y true) ⟨rfl,trivial⟩ rfl) fun u hu=>bv_one rfl hu
 | false=>rw [← on_eqN];exact pure_ok (orc_ok SG0ok K0ok) mixed Tryz.func70 (on_pt_run x y false) ⟨rfl,trivial⟩ rfl
section
variable (x y:Nat) (i:Bool) (x' y':Nat) (i':Bool)
end
noncomputable def SG1:List (FuncId×ASpec):=(70,pureSpec (spG fun P=>boolA (onP P)))::SG0
theorem SG1ok:SpecsOk Tryz.prog SG1:=⟨pureSpec_ok Tryz.func70 (by kernel_rfl) (by kernel_rfl) (spG_ok gon_ok),SG0ok⟩
end Go.Proofs.YtjlcdlekmpjjnaaGreat
/- g1: points as fractions: twice, plus, point: the contracts. -/
namespace Go.Proofs.YtjlcdlekmpjjnaaGreat
open Ex Num Rg
set_option maxRecDepth 100000
set_option maxHeartbeats 4000000
def f3A (x y z:Nat):AV:=.val true [.num 6 x,.num 6 y,.num 6 z]
def f3V (j:J FP):AV:=f3A j.x.val j.y.val j.z.val
def toJ (x y z:Nat):J FP:=⟨tf x,tf y,tf z⟩
def asF3 (cs:List Ch):Option (Nat×Nat×Nat):=match splitCh cs 6 with
 | some (a,r)=>match splitCh r 6 with
  | some (b,c)=>match asNum 6 a,asNum 6 b,asNum 6 c with
   | some x,some y,some z=>some (x,y,z)
   | _,_,_=>none
  | _=>none
 | none=>none
theorem asF3_rel {β β':Env} {cs:List Ch} {x y z:Nat} {u:Value} (h:asF3 cs=some (x,y,z)) (hr:relA β (.val true cs) u):relA β' (f3A x y z) u:=by
 unfold asF3 at h
 split at h
 case h_2=>cases h
 rename_i a r h1
 split at h
 case h_2=>cases h
 rename_i b c h2
 split at h
 case h_2=>cases h
 rename_i x' y' z' h3 h4 h5
 injection h with h;injection h with e1 h;injection h with e2 e3
 subst e1;subst e2;subst e3
 obtain ⟨l,hl,rfl⟩:=hr
 obtain ⟨q1,q2,q3⟩:=split_rel h1 hl
 obtain ⟨r1,r2,r3⟩:=split_rel h2 q2
 obtain ⟨ea,la⟩:=asNum_rel h3 q1
 obtain ⟨eb,lb⟩:=asNum_rel h4 r1
 obtain ⟨ec,lc⟩:=asNum_rel h5 r2
 refine ⟨l,⟨_,_,⟨la,rfl⟩,⟨_,_,⟨lb,rfl⟩,⟨_,[],⟨lc,rfl⟩,rfl,rfl⟩,rfl⟩,?_⟩,rfl⟩
 rw [← ea,← eb,← ec,List.append_nil,List.take_append_drop,List.take_append_drop]
theorem f3V_mk {x y z:Nat} {j:J FP} (hx:x<pN) (hy:y<pN) (hz:z<pN) (ex:tf x=j.x) (ey:tf y=j.y) (ez:tf z=j.z):f3A x y z=f3V j:=by
 unfold f3V
 rw [← val_eq hx ex,← val_eq hy ey,← val_eq hz ez]
def nE (x:Nat):Nat:=addN (addN (mulN x x) (mulN x x)) (mulN x x)
def nD (x y:Nat):Nat:=addN (addN (mulN x (mulN y y)) (mulN x (mulN y y))) (addN (mulN x (mulN y y)) (mulN x (mulN y y)))
def nC2 (y:Nat):Nat:=addN (mulN (mulN y y) (mulN y y)) (mulN (mulN y y) (mulN y y))
def nC4 (y:Nat):Nat:=addN (nC2 y) (nC2 y)
def nC8 (y:Nat):Nat:=addN (nC4 y) (nC4 y)
def nX (x y:Nat):Nat:=subN (mulN (nE x) (nE x)) (addN (nD x y) (nD x y))
def nY (x y:Nat):Nat:=subN (mulN (nE x) (subN (nD x y) (nX x y))) (nC8 y)
theorem tw_run (x y z:Nat):pureRun Tryz.prog (orc SG1 K0) Tryz.f71 [f3A x y z] [] 500=some ([],f3A (nX x y) (nY x y) (addN (mulN y z) (mulN y z))):=by kernel_rfl
theorem tf_nX (x y:Nat):tf (nX x y)=jX (tf x) (tf y):=by
 unfold nX nE nD jX jE jD
 simp only [tf_subN,tf_mulN,tf_addN]
theorem tf_nY (x y:Nat):tf (nY x y)=jE (tf x)*(jD (tf x) (tf y)-jX (tf x) (tf y))-jC8 (tf y):=by
 unfold nY
 rw [tf_subN,tf_mulN,tf_subN,tf_nX]
 unfold nE nD nC8 nC4 nC2 jE jD jC8 jC4 jC2
 simp only [tf_mulN,tf_addN]
theorem tw_ok (x y z:Nat):PureOk Tryz.prog 71 [f3A x y z] (f3V (twJ (toJ x y z))):=by
 rw [← f3V_mk (j:=twJ (toJ x y z)) (subN_lt _ _) (subN_lt _ _) (addN_lt _ _) (tf_nX x y) (tf_nY x y) (by rw [tf_addN,tf_mulN];rfl)]
 exact pure_ok (orc_ok SG1ok K0ok) mixed Tryz.func71 (tw_run x y z) trivial rfl
def spF (g:J FP→AV):List AV→Option AV
 | [.val true a]=>match asF3 a with
  | some (x,y,z)=>some (g (toJ x y z))
  | none=>none
 | _=>none
theorem spF_ok {f:FuncId} {g:J FP→AV} (h:∀ x y z,PureOk Tryz.prog f [f3A x y z] (g (toJ x y z))):∀ args v,spF g args=some v→PureOk Tryz.prog f args v:=by
 intro args v hs us w ha
 unfold spF at hs
 split at hs
 case h_2=>cases hs
 rename_i a
 split at hs
 case h_2=>cases hs
 rename_i x y z hx
 injection hs with hs;subst hs
 obtain ⟨u1,us1,r1,ha,rfl⟩:=ha
 exact h x y z _ w ⟨u1,_,asF3_rel hx r1,ha,rfl⟩
noncomputable def SG2:List (FuncId×ASpec):=(71,pureSpec (spF fun j=>f3V (twJ j)))::SG1
theorem SG2ok:SpecsOk Tryz.prog SG2:=⟨pureSpec_ok Tryz.func71 (by kernel_rfl) (by kernel_rfl) (spF_ok tw_ok),SG1ok⟩
def nH (x z a:Nat):Nat:=subN (mulN a (mulN z z)) x
def nR (y z b:Nat):Nat:=subN (mulN b (mulN (mulN z z) z)) y
def nPX (x h r:Nat):Nat:=subN (subN (mulN r r) (mulN (mulN h h) h)) (addN (mulN x (mulN h h)) (mulN x (mulN h h)))
def nPY (x y h r:Nat):Nat:=subN (mulN r (subN (mulN x (mulN h h)) (nPX x h r))) (mulN y (mulN (mulN h h) h))
section
variable (x y z a b:Nat) (i:Bool)
theorem pl_1:pureRun Tryz.prog (orc SG2 K0) Tryz.f72 [f3A x y z,g1A a b i] [true] 500=some ([(decide (z=0),true)],.val true (.num 6 a::.num 6 b::one6)):=by kernel_rfl
theorem pl_2:pureRun Tryz.prog (orc SG2 K0) Tryz.f72 [f3A x y z,g1A a b i] [false,true,true] 500=some ([(decide (z=0),false),(decide (nH x z a=0),true),(decide (nR y z b=0),true)],f3V (twJ (toJ x y z))):=by kernel_rfl
theorem pl_3:pureRun Tryz.prog (orc SG2 K0) Tryz.f72 [f3A x y z,g1A a b i] [false,true,false,true] 500=some ([(decide (z=0),false),(decide (nH x z a=0),true),(decide (nR y z b=0),false),(decide (nH x z a=0),true)],.val true (List.replicate 18 (.n .u64 0))):=by kernel_rfl
theorem pl_4:pureRun Tryz.prog (orc SG2 K0) Tryz.f72 [f3A x y z,g1A a b i] [false,false,false] 500=some ([(decide (z=0),false),(decide (nH x z a=0),false),(decide (nH x z a=0),false)],f3A (nPX x (nH x z a) (nR y z b)) (nPY x y (nH x z a) (nR y z b)) (mulN z (nH x z a))):=by kernel_rfl
end
theorem tf_nH (x y z a:Nat):tf (nH x z a)=pH (toJ x y z) (tf a):=by unfold nH pH toJ;simp only [tf_subN,tf_mulN]
theorem tf_nR (x y z b:Nat):tf (nR y z b)=pR (toJ x y z) (tf b):=by unfold nR pR toJ;simp only [tf_subN,tf_mulN]
theorem tf_z0 {n:Nat} (h:n<pN):n=0↔tf n=0:=by
 constructor
 ·rintro rfl;exact tf_zero
 ·intro e;exact tf_lt h pN_pos (e.trans tf_zero.symm)
theorem pure_f3 {P:Program} {f:FuncId} {args:List AV} {cs:List Ch} {x y z:Nat} (h:PureOk P f args (.val true cs)) (hc:asF3 cs=some (x,y,z)):PureOk P f args (f3A x y z):=pure_val h fun _ hu=>asF3_rel hc hu
theorem pl_ok {x y z a b:Nat} {i:Bool} (hz:z<pN) (ha:a<pN) (hb:b<pN):PureOk Tryz.prog 72 [f3A x y z,g1A a b i] (f3V (plJ (toJ x y z) (tf a) (tf b))):=by
 have eh:=tf_nH x y z a
 have er:=tf_nR x y z b
 have zh:=tf_z0 (n:=nH x z a) (subN_lt _ _)
 have zr:=tf_z0 (n:=nR y z b) (subN_lt _ _)
 rw [eh] at zh
 rw [er] at zr
 unfold plJ
 by_cases h0:z=0
 ·rw [if_pos (show (toJ x y z).z=0 from (tf_z0 hz).1 h0),← f3V_mk (j:=⟨tf a,tf b,1⟩) ha hb (show 1<pN by decide) rfl rfl tf_one]
  exact pure_f3 (pure_ok (orc_ok SG2ok K0ok) mixed Tryz.func72 (pl_1 x y z a b i) ⟨decide_eq_true h0,trivial⟩ rfl) rfl
 ·rw [if_neg (show ¬ (toJ x y z).z=0 from fun e=>h0 ((tf_z0 hz).2 e))]
  by_cases hh:nH x z a=0
  ·rw [if_pos (zh.1 hh)]
   by_cases hr:nR y z b=0
   ·rw [if_pos (zr.1 hr)]
    exact pure_ok (orc_ok SG2ok K0ok) mixed Tryz.func72 (pl_2 x y z a b i) ⟨decide_eq_false h0,decide_eq_true hh,decide_eq_true hr,trivial⟩ rfl
   ·rw [if_neg (fun e=>hr (zr.2 e)),← f3V_mk (j:=⟨0,0,0⟩) pN_pos pN_pos pN_pos tf_zero tf_zero tf_zero]
    exact pure_f3 (pure_ok (orc_ok SG2ok K0ok) mixed Tryz.func72 (pl_3 x y z a b i) ⟨decide_eq_false h0,decide_eq_true hh,decide_eq_false hr,decide_eq_true hh,trivial⟩ rfl) (by kernel_rfl)
  ·rw [if_neg (fun e=>hh (zh.2 e)),← f3V_mk (j:=⟨pX (toJ x y z).x (pH (toJ x y z) (tf a)) (pR (toJ x y z) (tf b)),pY (toJ x y z).x (toJ x y z).y (pH (toJ x y z) (tf a)) (pR (toJ x y z) (tf b)),(toJ x y z).z*pH (toJ x y z) (tf a)⟩)
    (x:=nPX x (nH x z a) (nR y z b)) (y:=nPY x y (nH x z a) (nR y z b)) (z:=mulN z (nH x z a)) (subN_lt _ _) (subN_lt _ _) (mulN_lt _ _) ?_ ?_ ?_]
   ·exact pure_ok (orc_ok SG2ok K0ok) mixed Tryz.func72 (pl_4 x y z a b i) ⟨decide_eq_false h0,decide_eq_false hh,decide_eq_false hh,trivial⟩ rfl
   ·unfold nPX pX;simp only [tf_subN,tf_mulN,tf_addN,eh,er];rfl
   ·unfold nPY nPX pY pX;simp only [tf_subN,tf_mulN,tf_addN,eh,er];rfl
   ·rw [tf_mulN,eh];rfl
noncomputable def plSp:List AV→Option (List (Bool×Bool)×AV)
 | [.val true a,.val true b]=>match asF3 a,asG1 b with
  | some (x,y,z),some (p,q,_)=>some ([(decide (z<pN),true),(decide (p<pN),true),(decide (q<pN),true)],f3V (plJ (toJ x y z) (tf p) (tf q)))
  | _,_=>none
 | _=>none
theorem plSp_ok:∀ args c v,plSp args=some (c,v)→okConds c→PureOk Tryz.prog 72 args v:=by
 intro args c v hs hc us w ha
 unfold plSp at hs
 split at hs
 case h_2=>cases hs
 rename_i a b
 split at hs
 case h_2=>cases hs
 rename_i x y z p q i hx hy
 injection hs with hs;injection hs with h1 h2;subst h1;subst h2
 obtain ⟨u1,us1,r1,⟨u2,us2,r2,ha,rfl⟩,rfl⟩:=ha
 exact pl_ok (of_decide_eq_true hc.1) (of_decide_eq_true hc.2.1) (of_decide_eq_true hc.2.2.1) _ w ⟨u1,_,asF3_rel hx r1,⟨u2,_,(asG1_rel hy r2).1,ha,rfl⟩,rfl⟩
def KG:List (TypeId×List (Option IntKind)):=(93,List.replicate 18 (some .u64))::K0
theorem KGok:KindsOk Tryz.prog KG:=⟨⟨by kernel_rfl,by kernel_rfl,by kernel_rfl⟩,K0ok⟩
def z3 (x y z:Nat):Bool:=decide (x=0)&&(decide (y=0)&&decide (z=0))
theorem po_1 (x y z:Nat):pureRun Tryz.prog (orc SG2 KG) Tryz.f73 [f3A x y z] [true] 500=some ([(z3 x y z,true)],.val true (zero12 true)):=by kernel_rfl
theorem po_2 (x y z:Nat):pureRun Tryz.prog (orc SG2 KG) Tryz.f73 [f3A x y z] [false,true] 500=some ([(z3 x y z,false),(decide (z=0),true)],.val true (zero12 true)):=by kernel_rfl
theorem po_3 (x y z:Nat):pureRun Tryz.prog (orc SG2 KG) Tryz.f73 [f3A x y z] [false,false] 500=some ([(z3 x y z,false),(decide (z=0),false)],.val true [.num 6 (mulN x (mulN (invN z) (invN z))),.num 6 (mulN y (mulN (mulN (invN z) (invN z)) (invN z))),.b false]):=by kernel_rfl
theorem po_ok {x y z:Nat} (hz:z<pN):PureOk Tryz.prog 73 [f3A x y z] (g1V (ptJ (toJ x y z))):=by
 by_cases h0:z=0
 ·rw [ptJ_zero (j:=toJ x y z) ((tf_z0 hz).1 h0)]
  cases h3:z3 x y z with
  | true=>exact pure_g1 (pure_ok (orc_ok SG2ok KGok) mixed Tryz.func73 (po_1 x y z) ⟨h3,trivial⟩ rfl) (by kernel_rfl)
  | false=>exact pure_g1 (pure_ok (orc_ok SG2ok KGok) mixed Tryz.func73 (po_2 x y z) ⟨h3,decide_eq_true h0,trivial⟩ rfl) (by kernel_rfl)
 ·have h3:z3 x y z=false:=by unfold z3;rw [decide_eq_false h0,Bool.and_false,Bool.and_false]
  rw [ptJ_ne (j:=toJ x y z) (fun e=>h0 ((tf_z0 hz).2 e))]
  have ei:tf (invN z)=FD.inv (tf z):=tf_inv hz
  rw [← g1V_mk (x:=mulN x (mulN (invN z) (invN z))) (y:=mulN y (mulN (mulN (invN z) (invN z)) (invN z))) (mulN_lt _ _) (mulN_lt _ _) (by rw [tf_mulN,tf_mulN,ei];rfl) (by rw [tf_mulN,tf_mulN,tf_mulN,ei];rfl)]
  exact pure_g1 (pure_ok (orc_ok SG2ok KGok) mixed Tryz.func73 (po_3 x y z) ⟨h3,decide_eq_false h0,trivial⟩ rfl) rfl
noncomputable def poSp:List AV→Option (List (Bool×Bool)×AV)
 | [.val true a]=>match asF3 a with
  | some (x,y,z)=>some ([(decide (z<pN),true)],g1V (ptJ (toJ x y z)))
  | _=>none
 | _=>none
theorem poSp_ok:∀ args c v,poSp args=some (c,v)→okConds c→PureOk Tryz.prog 73 args v:=by
 intro args c v hs hc us w ha
 unfold poSp at hs
 split at hs
 case h_2=>cases hs
 rename_i a
 split at hs
 case h_2=>cases hs
 rename_i x y z hx
 injection hs with hs;injection hs with h1 h2;subst h1;subst h2
 obtain ⟨u1,us1,r1,ha,rfl⟩:=ha
 exact po_ok (of_decide_eq_true hc.1) _ w ⟨u1,_,asF3_rel hx r1,ha,rfl⟩
noncomputable def SG3:List (FuncId×ASpec):=(72,condSpec plSp)::(73,condSpec poSp)::SG2
theorem SG3ok:SpecsOk Tryz.prog SG3:=⟨condSpec_ok Tryz.func72 (by kernel_rfl) (by kernel_rfl) plSp_ok,condSpec_ok Tryz.func73 (by kernel_rfl) (by kernel_rfl) poSp_ok,SG2ok⟩
end Go.Proofs.YtjlcdlekmpjjnaaGreat
/- g1.Mul: the contract. -/
namespace Go.Proofs.YtjlcdlekmpjjnaaGreat
open Ex Num Rg
set_option maxRecDepth 100000
set_option maxHeartbeats 4000000
theorem hget_last {H0:Heap} {k b:Nat} {blk blk' x:Blk} (h:hget (H0++[(k,some blk')]) b=some x):hget (H0++[(k,some blk)]) b=some x∨(x=blk'∧hget (H0++[(k,some blk)]) b=some blk):=by
 induction H0 with
 | nil =>
  simp only [List.nil_append,hget] at h ⊢
  cases e:Nat.beq k b with
  | true=>rw [e] at h;injection h with h;exact .inr ⟨h.symm,rfl⟩
  | false=>rw [e] at h;cases h
 | cons y r ih =>
  obtain ⟨j,z⟩:=y
  simp only [List.cons_append,hget] at h ⊢
  cases e:Nat.beq j b with
  | true=>rw [e] at h;exact .inl h
  | false=>rw [e] at h;exact ih h
theorem relB_imp {β:Env} {ty:TypeId} {cs cs':List Ch} {o:Bool} {k:Nat} {w:World} (h:∀ β l,relL β cs l→relL β cs' l) (hr:relB β ⟨ty,cs,o⟩ k w):relB β ⟨ty,cs',o⟩ k w:=by
 rcases hr with ⟨B,n,l,t,pre,ty',fz,q1,q2,q3⟩ | ⟨q1,q2,q3⟩
 ·exact .inl ⟨B,n,l,t,pre,ty',fz,q1,h _ _ q2,q3⟩
 ·exact .inr ⟨q1,q2,h _ _ q3⟩
theorem good_imp {β:Env} {H0:Heap} {k:Nat} {ty:TypeId} {cs cs':List Ch} {o:Bool} {w:World} (h:∀ β l,relL β cs l→relL β cs' l) (g:Ex.Good β (H0++[(k,some ⟨ty,cs,o⟩)]) w):Ex.Good β (H0++[(k,some ⟨ty,cs',o⟩)]) w:=by
 have hs:∀ b x,hget (H0++[(k,some ⟨ty,cs',o⟩)]) b=some x→∃ y,hget (H0++[(k,some ⟨ty,cs,o⟩)]) b=some y∧y.ty=x.ty:=fun b x hb=>by
  rcases hget_last (blk:=⟨ty,cs,o⟩) hb with e | ⟨rfl,e⟩
  ·exact ⟨x,e,rfl⟩
  ·exact ⟨_,e,rfl⟩
 refine ⟨fun b blk hb=>?_,fun b b' B n n' h1 h2 h3 h4=>?_,g.lt⟩
 ·rcases hget_last (blk:=⟨ty,cs,o⟩) hb with e | ⟨rfl,e⟩
  ·exact g.heap b blk e
  ·exact relB_imp h (g.heap b _ e)
 ·obtain ⟨x,hx,hr⟩:=rwK_some h1
  obtain ⟨y,hy,e⟩:=hs b x hx
  obtain ⟨x',hx'⟩:=Option.isSome_iff_exists.1 h2
  obtain ⟨y',hy',_⟩:=hs b' x' hx'
  exact g.inj b b' B n n' (rwK_mk hy (by rw [e];exact hr)) (by rw [hy'];rfl) h3 h4
theorem heap_safe {P:Program} {f:FuncId} {β0:Env} {w0:World} {R:Ending→World→Prop} {n:Nat} {W:List Nat} {todo:List Item} {T:List AV} {H0:Heap} {k:Nat} {ty:TypeId} {cs cs':List Ch} {o:Bool} {fr:Nat} {p:List Bool} (h:∀ β l,relL β cs l→relL β cs' l)
  (hs:ASafe P f β0 w0 R n W ⟨todo,⟨T,H0++[(k,some ⟨ty,cs',o⟩)],fr,p⟩⟩):ASafe P f β0 w0 R n W ⟨todo,⟨T,H0++[(k,some ⟨ty,cs,o⟩)],fr,p⟩⟩ :=
 fun β a w hi hf=>hs β a w { hi with good:=good_imp h hi.good } hf
noncomputable def gmTodo:List Item:=todoOf (aSeg Tryz.prog (orc SG3 KG) (some 0) 500 1 none (entry Tryz.f22 [slA 0 0 0 0,g1A 0 0 false] (seqH []) 1 [false,false]))
noncomputable def gmT (off n m:Nat) (i:Int):List AV:=.val false [.sl 0 off n m]::.any::.any::.val false [.p 1 0]::.val false [.p 2 0]::.val false [.n .i64 0]::.val false [.p 3 0]::.val false [.v (.int .i64 i)]::List.replicate (Tryz.f22.ntmps-8) .any
noncomputable def gmH (xs:List Int) (P:Pt FP):Heap:=[(0,some (roB [.seq .u64 xs])),(1,some ⟨32,[.num 6 (ptX P),.num 6 (ptY P),.v (.bool (ptI P))],false⟩),(2,some ⟨32,zero12 false,false⟩)]
noncomputable def gmS (off n m:Nat) (xs:List Int) (P:Pt FP) (out:List Ch) (i:Int) (path:List Bool):ASt:=⟨gmTodo,⟨gmT off n m i,List.append (gmH xs P) [(3,some ⟨93,out,false⟩)],4,path⟩⟩
def jC (j:J FP):List Ch:=[.num 6 j.x.val,.num 6 j.y.val,.num 6 j.z.val]
def zero18:List Ch:=[.n .u64 0,.n .u64 0,.n .u64 0,.n .u64 0,.n .u64 0,.n .u64 0,.n .u64 0,.n .u64 0,.n .u64 0,.n .u64 0,.n .u64 0,.n .u64 0,.n .u64 0,.n .u64 0,.n .u64 0,.n .u64 0,.n .u64 0,.n .u64 0]
def toJ' (j:J FP):J FP:=toJ j.x.val j.y.val j.z.val
theorem toJ'_eq (j:J FP):toJ' j=j:=by
 unfold toJ' toJ
 rw [tf_val,tf_val,tf_val]
noncomputable def plP (j:J FP) (P:Pt FP):J FP:=plJ (toJ' (twJ (toJ' j))) (tf (ptX P)) (tf (ptY P))
def gmArgs (x y:Nat) (i:Bool) (off n m:Nat):List AV:=[slA 0 off n m,g1A x y i]
def toPt' (P:Pt FP):Pt FP:=toPt (ptX P) (ptY P) (ptI P)
theorem gm_entry (x y:Nat) (i:Bool) (off n m:Nat) (xs:List Int):aSeg Tryz.prog (orc SG3 KG) (some 0) 500 1 (some ([0,3,4,5,6,7],[0,1,2,3],4)) (entry Tryz.f22 (gmArgs x y i off n m) (seqH xs) 1 [false,false]) =
 some ([(!onP (toPt' (toPt x y i)),false),(ptI (toPt x y i),false),(hasB .i64 n,true)],[],gmS off n m xs (toPt x y i) zero18 (wI (wI (64*(n:Int))-1)) []):=by kernel_rfl
def gmA (Q:Pt FP) (e:Int):AV:=.tup [(true,[.num 6 (ptX Q),.num 6 (ptY Q),.v (.bool (ptI Q))]),(false,[.v (.int .i64 e)])]
def gmN (Q:Pt FP) (e:Int):AV:=.tup [(true,[.num 6 (ptX Q),.num 6 (ptY Q),.v (.bool (ptI Q))]),(false,[.n .i64 e])]
theorem gm_off (x y:Nat) (i:Bool) (off n m:Nat) (xs:List Int):segOut Tryz.prog (orc SG3 KG) Tryz.f22 500 1 [] (entry Tryz.f22 (gmArgs x y i off n m) (seqH xs) 1 [true]) =
 some ([(!onP (toPt' (toPt x y i)),true)],[],.tup [(true,zero12 false),(false,[.n .i64 120])],[]):=by kernel_rfl
theorem gm_inf (x y:Nat) (i:Bool) (off n m:Nat) (xs:List Int):segOut Tryz.prog (orc SG3 KG) Tryz.f22 500 1 [] (entry Tryz.f22 (gmArgs x y i off n m) (seqH xs) 1 [false,true]) =
 some ([(!onP (toPt' (toPt x y i)),false),(ptI (toPt x y i),true)],[],gmN (toPt x y i) 0,[]):=by kernel_rfl
def gmC (off n:Nat) (xs:List Int) (i:Int) (bit:Bool) (r:List (Bool×Bool)):List (Bool×Bool):=(decide (0≤i),true)::(true,true)::(decide (0≤wI (Int.tdiv i 64)∧wI (Int.tdiv i 64)<n),true) ::
 (decide (off+(wI (Int.tdiv i 64)).toNat*1<xs.length),true)::(decide (0≤i∧(0:Int)<64),true)::(decide (0≤Int.tmod i 64∧0≤powW xs off i),true)::(decide (bitI (powW xs off i) (Int.tmod i 64)=0),bit)::r
section
variable (off n m:Nat) (xs:List Int) (P:Pt FP) (j:J FP) (i:Int)
theorem gm_zero:aSeg Tryz.prog (orc SG3 KG) (some 0) 500 1 (some ([0,3,4,5,6,7],[0,1,2,3],4)) (gmS off n m xs P (jC j) i [true,true]) =
 some (gmC off n xs i true [],[],gmS off n m xs P (jC (twJ (toJ' j))) (wI (i-1)) []):=by kernel_rfl
theorem gm_one:aSeg Tryz.prog (orc SG3 KG) (some 0) 500 1 (some ([0,3,4,5,6,7],[0,1,2,3],4)) (gmS off n m xs P (jC j) i [true,false]) =
 some (gmC off n xs i false [(decide ((twJ (toJ' j)).z.val<pN),true),(decide (ptX P<pN),true),(decide (ptY P<pN),true)],[],gmS off n m xs P (jC (plP j P)) (wI (i-1)) []):=by kernel_rfl
theorem gm_exit:segOut Tryz.prog (orc SG3 KG) Tryz.f22 500 1 [] (gmS off n m xs P (jC j) i [false]) =
 some ([(decide (0≤i),false),(decide (j.z.val<pN),true)],[],gmN (ptJ (toJ' j)) 0,[]):=by kernel_rfl
end
theorem gm_wf (off n m:Nat) (xs:List Int) (P:Pt FP) (j:J FP) (i:Int) (p:List Bool):wfSt Tryz.f22.ntmps (gmS off n m xs P (jC j) i p).s:=wfB_ok (by kernel_rfl)
theorem zero18_rel (β:Env) (l:List Value) (h:relL β zero18 l):relL β (jC ⟨0,0,0⟩) l:=by
 have h3:asF3 zero18=some (0,0,0):=by kernel_rfl
 obtain ⟨l',q,e⟩:=asF3_rel (β':=β) (u:=.agg ⟨l⟩) h3 ⟨l,h,rfl⟩
 injection e with e;injection e with e;subst e
 exact q
def accJ (P:Pt FP) (E c:Nat) (j:J FP):Prop:=ptJ j=smul (E / 2^c) P
section
variable {off n m:Nat} {xs:List Int} (hall:∀ d∈xs,0≤d∧d<18446744073709551616) (hlen:off+n≤xs.length) (hn:n≤1125899906842624) {P:Pt FP} (hP:Rg.On C1.b P) (hI:ptI P=false) {β0:Env} {w0:World} (hb:∀ b,1≤b→β0 b=none)
include hall hlen hn hb hP hI
theorem gm_safe:∀ (c:Nat) (j:J FP),accJ P (natL (win xs off n)) c j→c≤64*n→ASafe Tryz.prog 22 β0 w0 (Outs β0 w0 [] (gmN (smul (natL (win xs off n)) P) 0) []) Tryz.f22.ntmps [] (gmS off n m xs P (jC j) ((c:Int)-1) []):=by
 intro c
 induction c with
 | zero =>
  intro j hj _
  have h:ASafe Tryz.prog 22 β0 w0 (Outs β0 w0 [] (gmN (ptJ (toJ' j)) 0) []) Tryz.f22.ntmps [] (gmS off n m xs P (jC j) (((0:Nat):Int)-1) [false]) :=
   out_safe (orc_ok SG3ok KGok) mixed Tryz.func22 (gm_exit ..) ⟨rfl,decide_eq_true j.z.isLt,trivial⟩ (gm_wf ..) hb (fun _ h=>by cases h)
  unfold accJ at hj
  rw [toJ'_eq,hj,Nat.pow_zero,Nat.div_one] at h
  exact path_safe [false] h
 | succ c ih =>
  intro j hj hc
  have hi:((c+1:Nat):Int)-1=(c:Int):=by omega
  rw [hi]
  have hlt:∀ d∈win xs off n,0≤d∧d<18446744073709551616:=win_has hall
  have hq:Int.tdiv (c:Int) 64=((c / 64:Nat):Int):=by rw [Int.tdiv_eq_ediv_of_nonneg (by omega)];rfl
  have hr:Int.tmod (c:Int) 64=((c % 64:Nat):Int):=by rw [Int.tmod_eq_emod_of_nonneg (by omega)];rfl
  have hw:wI (Int.tdiv (c:Int) 64)=((c / 64:Nat):Int):=by rw [hq];exact wI_eq (by omega)
  have hjn:c / 64<n:=by omega
  have hv:powW xs off c=(win xs off n).getD (c / 64) 0:=by
   unfold powW
   rw [hw,Int.toNat_natCast,Nat.mul_one]
   exact (bit_word hjn).symm
  have hvb:0≤powW xs off c∧powW xs off c<18446744073709551616:=by
   rw [hv,List.getD_eq_getElem?_getD]
   cases h:(win xs off n)[c / 64]? with
   | none=>simp
   | some d=>exact hlt d (List.mem_of_getElem? h)
  have hbit:bitI (powW xs off c) (Int.tmod c 64)=((natL (win xs off n) / 2^c % 2:Nat):Int):=by
   obtain ⟨V,hV⟩:=Int.eq_ofNat_of_zero_le hvb.1
   rw [hr,← natL_bit _ c hlt,← hv,hV,Int.toNat_natCast]
   exact bitI_eq V _ (by omega) (by omega)
  have hnext:wI ((c:Int)-1)=(c:Int)-1:=wI_eq (by omega)
  have hconds:∀ bit r,decide (bitI (powW xs off c) (Int.tmod c 64)=0)=bit→okConds r→okConds (gmC off n xs c bit r):=by
   intro bit r hbt hr'
   refine ⟨by simp,rfl,?_,?_,?_,?_,hbt,hr'⟩
   ·rw [hw];simp;omega
   ·rw [hw];simp;omega
   ·simp
   ·simp only [decide_eq_true_eq];rw [hr];exact ⟨by omega,hvb.1⟩
  have hdiv:natL (win xs off n) / 2^c=2*(natL (win xs off n) / 2^(c+1))+natL (win xs off n) / 2^c % 2:=by
   rw [Nat.pow_succ,← Nat.div_div_eq_div_mul];omega
  unfold accJ at hj
  have hoj:Rg.On C1.b (ptJ j):=by rw [hj];exact on_smul C1 hP _
  have htw:ptJ (twJ (toJ' j))=smul (2*(natL (win xs off n) / 2^(c+1))) P:=by
   rw [toJ'_eq,ptJ_tw C1 hoj,hj,← smul_add C1 hP,Nat.two_mul]
  rcases Nat.mod_two_eq_zero_or_one (natL (win xs off n) / 2^c) with h0 | h1
  ·refine path_safe [true,true] (seg_safe (orc_ok SG3ok KGok) mixed (gm_zero ..) (hconds true [] (by rw [hbit,h0];rfl) trivial) (gm_wf ..) hb (fun _ h=>by cases h) fun _=>?_)
   rw [hnext]
   refine ih _ ?_ (by omega)
   unfold accJ
   rw [htw,hdiv,h0];rfl
  ·refine path_safe [true,false] (seg_safe (orc_ok SG3ok KGok) mixed (gm_one ..) (hconds false _ (by rw [hbit,h1];rfl) ⟨decide_eq_true (twJ (toJ' j)).z.isLt,decide_eq_true (ptX_lt P),decide_eq_true (ptY_lt P),trivial⟩) (gm_wf ..) hb (fun _ h=>by cases h) fun _=>?_)
   rw [hnext]
   refine ih _ ?_ (by omega)
   unfold accJ plP
   rw [toJ'_eq (twJ (toJ' j)),ptJ_pl C1 (by rw [htw];exact on_smul C1 hP _),htw,hdiv,h1]
   cases P with
   | inf=>cases hI
   | pt a b =>
    show add _ (.pt (tf a.val) (tf b.val))=_
    rw [tf_val,tf_val];rfl
end
noncomputable def mulP (N:Nat) (P:Pt FP):Pt FP:=if onP P=true then smul N P else .pt 0 0
noncomputable def mulE (P:Pt FP):Int:=if onP P=true then 0 else 120
theorem toPt'_eq (P:Pt FP):toPt' P=P:=toPt_of P
theorem gmN_A {β:Env} {Q:Pt FP} {e:Int} {u:Value} (h:relA β (gmN Q e) u):relA β (gmA Q e) u:=relT2 (fun _ q=>q) (fun _ q=>gval rfl q) h
theorem gm_can {off n m:Nat} {xs:List Int} (hall:∀ d∈xs,0≤d∧d<18446744073709551616) (hlen:off+n≤xs.length) (hn:n≤1125899906842624) (x y:Nat) (i:Bool) :
  CanOk Tryz.prog 22 (gmArgs x y i off n m) (seqH xs) 1 [] (gmA (mulP (natL (win xs off n)) (toPt x y i)) (mulE (toPt x y i))) []:=by
 have e1:=gm_entry x y i off n m xs
 have e2:=gm_off x y i off n m xs
 have e3:=gm_inf x y i off n m xs
 rw [toPt'_eq] at e1 e2 e3
 generalize toPt x y i=P at *
 cases ho:onP P with
 | false =>
  unfold mulP mulE
  rw [if_neg (by rw [ho];exact Bool.false_ne_true),if_neg (by rw [ho];exact Bool.false_ne_true)]
  refine can_val (can_entry (path:=[true]) Tryz.func22 (by kernel_rfl) (by kernel_rfl) fun β0 w0 hb =>
   out_safe (orc_ok SG3ok KGok) mixed Tryz.func22 e2 ⟨by rw [ho];rfl,trivial⟩ (wfB_ok (by kernel_rfl)) hb (fun _ h=>by cases h)) fun β u hu=>?_
  exact relT2 (fun _ q=>(asG1_rel (x:=0) (y:=0) (i:=false) (by kernel_rfl) q).1) (fun _ q=>gval rfl q) hu
 | true =>
  have hP:=(onP_iff P).1 ho
  unfold mulP mulE
  rw [if_pos ho,if_pos ho]
  cases hI:ptI P with
  | true =>
   have hp:P=.inf:=by cases P with | inf=>rfl | pt a b=>cases hI
   have hs:smul (natL (win xs off n)) P=P:=by rw [hp,smul_inf]
   rw [hs]
   exact can_val (can_entry (path:=[false,true]) Tryz.func22 (by kernel_rfl) (by kernel_rfl) fun β0 w0 hb =>
    out_safe (orc_ok SG3ok KGok) mixed Tryz.func22 e3 ⟨by rw [ho];rfl,hI,trivial⟩ (wfB_ok (by kernel_rfl)) hb (fun _ h=>by cases h)) fun β u hu=>gmN_A hu
  | false =>
   refine can_val (can_entry (path:=[false,false]) Tryz.func22 (by kernel_rfl) (by kernel_rfl) fun β0 w0 hb=>?_) fun β u hu=>gmN_A hu
   refine seg_safe (orc_ok SG3ok KGok) mixed e1 ⟨by rw [ho];rfl,hI,?_,trivial⟩ (wfB_ok (by kernel_rfl)) hb (fun _ h=>by cases h) fun _=>?_
   ·simp only [hasB,Bool.and_eq_true,decide_eq_true_eq];omega
   ·have e4:wI (wI (64*(n:Int))-1)=((64*n:Nat):Int)-1:=by
     rw [wI_eq (z:=64*(n:Int)) (by omega),wI_eq (by omega)];omega
    rw [e4]
    refine heap_safe zero18_rel (gm_safe hall hlen hn hP hI hb (64*n) ⟨0,0,0⟩ ?_ (Nat.le_refl _))
    unfold accJ
    have hl:=natL_lt (win xs off n) (win_has hall)
    have hl2:natL (win xs off n)<2^(64*n):=by
     unfold win at hl ⊢
     rwa [List.length_take,List.length_drop,Nat.min_eq_left (by omega)] at hl
    rw [ptJ_zero rfl,Nat.div_eq_of_lt hl2];rfl
def wgSp (g:List Int→Pt FP→AV):ASpec:=fun args H fr path =>
 match args with
 | [S,.val true a]=>match asSl S with
  | some (k,off,n)=>match asG1 a,hget H k with
   | some (x,y,i),some ⟨_,cs,_⟩=>match toSeq .u64 cs with
    | some xs=>some (trR [k] 1 fr 0 [] (g (win xs off n) (toPt x y i)) [] [(Nat.ble (off+n) xs.length,true),(Nat.ble n 1125899906842624,true)] path)
    | none=>none
   | _,_=>none
  | none=>none
 | _=>none
theorem wgSp_ok {f:FuncId} {fn:Func} {g:List Int→Pt FP→AV} (hfn:Tryz.prog.funcs[f]? = some fn) (hb:fn.body.isSome=true) (hname:(fn.name=="runtime.NumGoroutine")=false) (hk:∀ l P,canB 1 0 [] (g l P) []=true)
  (h:∀ (off n m:Nat) (xs:List Int) (x y:Nat) (i:Bool),(∀ d∈xs,0≤d∧d<18446744073709551616)→off+n≤xs.length→n≤1125899906842624→CanOk Tryz.prog f (gmArgs x y i off n m) (seqH xs) 1 [] (g (win xs off n) (toPt x y i)) []):SpecOk Tryz.prog f (wgSp g):=by
 refine can_spec2 hfn hb hname fun args H fr path r hs=>?_
 unfold wgSp at hs
 split at hs
 case h_2=>cases hs
 rename_i S a
 split at hs
 case h_2=>cases hs
 rename_i k off n hS
 split at hs
 case h_2=>cases hs
 rename_i x y i ty cs o hx hk'
 split at hs
 case h_2=>cases hs
 rename_i xs hxs
 injection hs with hs
 refine ⟨[k],1,0,[],_,_,_,path,hs.symm,fun β us w ha hg hc=>?_⟩
 obtain ⟨u1,us1,r1,⟨u2,us2,r2,ha,rfl⟩,rfl⟩:=ha
 obtain ⟨m,r1⟩:=asSl_rel hS r1
 obtain ⟨g1,g2,g3⟩:=good_seq hg hk' hxs
 exact ⟨gmArgs x y i off n m,seqH xs,h off n m xs x y i g1 (Nat.le_of_ble_eq_true hc.1) (Nat.le_of_ble_eq_true hc.2.1),hk _ _,⟨u1,_,sl_in (by omega) rfl r1,⟨u2,us2,(asG1_rel hx r2).1,ha,rfl⟩,rfl⟩,g2,g3⟩
noncomputable def SG4:List (FuncId×ASpec):=(22,nilSpec (wgSp fun l P=>gmA (mulP (natL l) P) (mulE P)))::SG3
theorem SG4ok:SpecsOk Tryz.prog SG4:=⟨nilSpec_ok (wgSp_ok Tryz.func22 (by kernel_rfl) (by kernel_rfl) (fun _ _=>by kernel_rfl) fun _ _ _ _ x y i hx hl hn=>gm_can hx hl hn x y i),SG3ok⟩
end Go.Proofs.YtjlcdlekmpjjnaaGreat
/- sigilref12: number, b, Base, Reduce, On, Neg, Slope, Add, twice, plus: the contracts. -/
namespace Go.Proofs.YtjlcdlekmpjjnaaGreat
open Ex Num Rg
set_option maxRecDepth 100000
set_option maxHeartbeats 4000000
noncomputable def SR0:List (FuncId×ASpec):=SG4
theorem SR0ok:SpecsOk Tryz.prog SR0:=SG4ok
section
variable (x y:Nat) (i:Bool) (x' y':Nat) (i':Bool)
end
noncomputable def SR1:List (FuncId×ASpec):=SR0
theorem SR1ok:SpecsOk Tryz.prog SR1:=SR0ok
end Go.Proofs.YtjlcdlekmpjjnaaGreat
/- sigilref12: Add, twice, plus: the contracts. -/
namespace Go.Proofs.YtjlcdlekmpjjnaaGreat
open Ex Num Rg
set_option maxRecDepth 100000
set_option maxHeartbeats 4000000
section
variable (x y:Nat) (i:Bool) (x' y':Nat) (i':Bool)
end
noncomputable def SR2:List (FuncId×ASpec):=SR1
theorem SR2ok:SpecsOk Tryz.prog SR2:=SR1ok
section
variable (x y z a b:Nat) (i:Bool)
end
noncomputable def SR3:List (FuncId×ASpec):=SR2
theorem SR3ok:SpecsOk Tryz.prog SR3:=SR2ok
end Go.Proofs.YtjlcdlekmpjjnaaGreat
/- sigillaw12: none, awake. -/
namespace Go.Proofs.YtjlcdlekmpjjnaaGreat
open Ex Num Rg
set_option maxRecDepth 100000
set_option maxHeartbeats 4000000
noncomputable def SN:List (FuncId×ASpec):=SR3
theorem SNok:SpecsOk Tryz.prog SN:=SR3ok
def yes12:List AV→Option AV
 | []=>some (.val false [.b true])
 | _=>none
noncomputable def SA12:List (FuncId×ASpec):=SN
theorem SA12ok:SpecsOk Tryz.prog SA12:=SNok
end Go.Proofs.YtjlcdlekmpjjnaaGreat
/- sigilref12.Mul: the contract. -/
namespace Go.Proofs.YtjlcdlekmpjjnaaGreat
open Ex Num Rg
set_option maxRecDepth 100000
set_option maxHeartbeats 4000000
section
variable (x y:Nat) (b:Bool) (off n m:Nat) (xs:List Int) (P:Pt FP) (j:J FP) (i:Int)
end
section
variable {off n m:Nat} {xs:List Int} (hall:∀ d∈xs,0≤d∧d<18446744073709551616) (hlen:off+n≤xs.length) (hn:n≤1125899906842624) {x y:Nat} {b:Bool} {P:Pt FP} (hP:Rg.On C1.b P) (hI:ptI P=false) {β0:Env} {w0:World} (hb:∀ b,1≤b→β0 b=none)
include hall hlen hn hb hP hI
end
noncomputable def SR4:List (FuncId×ASpec):=SA12
theorem SR4ok:SpecsOk Tryz.prog SR4:=SA12ok
end Go.Proofs.YtjlcdlekmpjjnaaGreat
/- limb.take: what is left of a number, less another one as often as it goes: the walk. -/
namespace Go.Proofs.YtjlcdlekmpjjnaaGreat
open Ex Num
set_option maxRecDepth 100000
set_option maxHeartbeats 4000000
noncomputable abbrev oTk:Orc:=orc S22 K0
def tkH (ls ms:List Int):Heap:=[(0,some ⟨24,[.seq .u64 ls],false⟩),(1,some (roB [.seq .u64 ms]))]
def tkA (n m N M:Nat):List AV:=[.val false [.sl 0 0 N M],.val false [.sl 1 0 n m],.val false [.v (.int .i64 (n:Int))]]
noncomputable def tkTodo:List Item:=todoOf (aSeg Tryz.prog oTk (some 0) 100 2 none (entry Tryz.f212 (tkA 0 0 0 0) (tkH [] []) 2 []))
noncomputable def tkT (n m N M:Nat):List AV:=.val false [.sl 0 0 N M]::.val false [.sl 1 0 n m]::.val false [.v (.int .i64 n)]::List.replicate (Tryz.f212.ntmps-3) .any
noncomputable def tkS (ls ms:List Int) (n m N M:Nat) (p:List Bool):ASt:=⟨tkTodo,⟨tkT n m N M,tkH ls ms,2,p⟩⟩
noncomputable def tkTodo2:List Item:=todoOf (aSeg Tryz.prog oTk (some 0) 200 2 none (tkS [] [] 0 0 0 0 [true,true]))
noncomputable def tkT2 (n m N M:Nat) (q b i c:Ch):List AV:=.val false [.sl 0 0 N M]::.val false [.sl 1 0 n m]::.val false [.v (.int .i64 n)]::.any::.any::.any::.val false [q]::.any::.val false [b]::.val false [i]::.val false [c]::List.replicate (Tryz.f212.ntmps-11) .any
noncomputable def tkS2 (ls ms:List Int) (n m N M:Nat) (q b i c:Int) (p:List Bool):ASt:=⟨tkTodo2,⟨tkT2 n m N M (.v (.int .u64 q)) (.v (.int .u64 b)) (.v (.int .i64 i)) (.v (.int .u64 c)),tkH ls ms,2,p⟩⟩
noncomputable def tkS1 (ls ms:List Int) (n m N M:Nat) (q:Ch):ASt:=⟨tkTodo2,⟨tkT2 n m N M q (.n .u64 0) (.n .i64 0) (.n .u64 0),tkH ls ms,2,[]⟩⟩
abbrev kA:Option (List Nat×List Nat×Nat):=some ([0,1,2],[0,1],2)
abbrev kB:Option (List Nat×List Nat×Nat):=some ([0,1,2,6,8,9,10],[0,1],2)
def max1 (x:Int):Int:=if 1 > x then 1 else x
def nI (n:Nat):Int:=wI ((n:Int)-1)
def tkM (ms:List Int) (n:Nat):Int:=ms.getD (0+(nI n).toNat*1) 0
def tkL (ls:List Int) (n:Nat):Int:=ls.getD (0+(n:Int).toNat*1) 0
def tkQ (ls ms:List Int) (n:Nat):Int:=(((tkL ls n).toNat*W64+(ls.getD (0+(nI n).toNat*1) 0).toNat) / (mW (tkM ms n+1)).toNat:Nat)
section
variable (ls ms:List Int) (n m N M:Nat) (q b i c:Int)
def tkC (d:Bool) (r:List (Bool×Bool)):List (Bool×Bool):=(Nat.ble (0+N) ls.length,true)::(Nat.ble (0+n) ms.length,true)::(hasB .i64 N,true)::(hasB .i64 n,true)::(decide (0≤cmpI (natL (win ls 0 N)) (natL (win ms 0 n))),d)::r
def tkD (d:Bool) (r:List (Bool×Bool)):List (Bool×Bool):=(decide (0≤nI n∧nI n<n),true)::(decide (0+(nI n).toNat*1<ms.length),true)::(decide (mW (tkM ms n+1)=0),d)::(decide (0≤(n:Int)∧(n:Int)<N),true)::(decide (0+(n:Int).toNat*1<ls.length),true)::r
theorem tk_entry:aSeg Tryz.prog oTk (some 0) 100 2 kA (entry Tryz.f212 (tkA n m N M) (tkH ls ms) 2 [])=some ([],[],tkS ls ms n m N M []):=by kernel_rfl
theorem tk_top:aSeg Tryz.prog oTk (some 0) 200 2 kB (tkS ls ms n m N M [true,true])=some (tkC ls ms n N true (tkD ls ms n N true []),[],tkS1 ls ms n m N M (.v (.int .u64 (max1 (tkL ls n))))):=by kernel_rfl
theorem tk_div:aSeg Tryz.prog oTk (some 0) 200 2 kB (tkS ls ms n m N M [true,false,true])=some (tkC ls ms n N true (tkD ls ms n N false [(decide (tkL ls n<mW (tkM ms n+1)),true),(decide (0≤(n:Int)∧(n:Int)<N),true),(decide (0+(n:Int).toNat*1<ls.length),true),
 (decide (0≤nI n∧nI n<N),true),(decide (0+(nI n).toNat*1<ls.length),true),(decide (tkL ls n<mW (tkM ms n+1)),true)]),[],tkS1 ls ms n m N M (.v (.int .u64 (max1 (tkQ ls ms n))))):=by kernel_rfl
theorem tk_one:aSeg Tryz.prog oTk (some 0) 200 2 kB (tkS ls ms n m N M [true,false,false])=some (tkC ls ms n N true (tkD ls ms n N false [(decide (tkL ls n<mW (tkM ms n+1)),false)]),[],tkS1 ls ms n m N M (.n .u64 1)):=by kernel_rfl
theorem tk_exit:segOut Tryz.prog oTk Tryz.f212 200 2 [0] (tkS ls ms n m N M [false])=some (tkC ls ms n N false [],[],.tup [],[(0,some ⟨24,[.seq .u64 ls],false⟩)]):=by kernel_rfl
def tkl:Int:=ls.getD (0+i.toNat*1) 0
def tks:Int:=sumW (mulLo q (atV ms 0 n i)) c 0
theorem tk_step:aSeg Tryz.prog oTk (some 0) 200 2 kB (tkS2 ls ms n m N M q b i c [true]) =
 some ([(hasB .i64 N,true),(decide (i<N),true),(Nat.ble (0+n) ms.length,true),(hasB .i64 n,true),(decide (0≤i),true),(true,true),(decide (0≤i∧i<N),true),(decide (0+i.toNat*1<ls.length),true),(is01 b,true),(decide (0≤i∧i<N),true),(decide (0+i.toNat*1<ls.length),true)],[0],
  tkS2 (ls.set (0+i.toNat*1) (difW (tkl ls i) (tks ms n q i c) b)) ms n m N M q (borW (tkl ls i) (tks ms n q i c) b) (wI (i+1)) (mW (mulHi q (atV ms 0 n i)+carW (mulLo q (atV ms 0 n i)) c 0)) []):=by kernel_rfl
theorem tk_next:aSeg Tryz.prog oTk (some 0) 200 2 kA (tkS2 ls ms n m N M q b i c [false])=some ([(hasB .i64 N,true),(decide (i<N),false)],[],tkS ls ms n m N M []):=by kernel_rfl
end
end Go.Proofs.YtjlcdlekmpjjnaaGreat
/- limb.take: the contract. -/
namespace Go.Proofs.YtjlcdlekmpjjnaaGreat
open Ex Num
set_option maxRecDepth 100000
set_option maxHeartbeats 4000000
def cqN (q M i:Nat):Nat:=q*(M % 2^(64*i)) / 2^(64*i)
theorem pw_pos (i:Nat):0<2^(64*i):=Nat.pow_pos (by decide)
theorem pw_succ (i:Nat):2^(64*(i+1))=2^(64*i)*18446744073709551616:=by rw [show 64*(i+1)=64*i+64 by omega,Nat.pow_add]
theorem cq_lt {q:Nat} (hq:q<18446744073709551616) (M i:Nat):cqN q M i<18446744073709551616:=by
 unfold cqN
 refine Nat.div_lt_of_lt_mul ?_
 have h1:=Nat.mod_lt M (pw_pos i)
 rcases Nat.eq_zero_or_pos q with rfl | h0
 ·rw [Nat.zero_mul];exact Nat.mul_pos (pw_pos i) (by decide)
 ·calc q*(M % 2^(64*i))<q*2^(64*i):=Nat.mul_lt_mul_of_pos_left h1 h0
   _≤2^(64*i)*18446744073709551616:=by rw [Nat.mul_comm];exact Nat.mul_le_mul_left _ (by omega)
theorem cq_gen (q M Q W:Nat) (hQ:0<Q):q*(M % (Q*W)) / (Q*W)=(q*(M / Q % W)+q*(M % Q) / Q) / W∧q*M / Q % W=(q*(M / Q % W)+q*(M % Q) / Q) % W:=by
 have e1:q*(M % (Q*W))=q*(M % Q)+Q*(q*(M / Q % W)):=by rw [Nat.mod_mul,Nat.mul_add,Nat.mul_left_comm]
 have e2:q*(M % (Q*W)) / Q=q*(M / Q % W)+q*(M % Q) / Q:=by rw [e1,Nat.add_mul_div_left _ _ hQ];omega
 refine ⟨by rw [← Nat.div_div_eq_div_mul,e2],?_⟩
 have e3:q*M=q*(M % (Q*W))+Q*(W*(q*(M / (Q*W)))):=by
  have h:=Nat.div_add_mod M (Q*W)
  have h2:q*M=q*(Q*W*(M / (Q*W))+M % (Q*W)):=by rw [h]
  rw [h2,Nat.mul_add,Nat.add_comm]
  congr 1
  simp only [Nat.mul_left_comm,Nat.mul_assoc]
 rw [e3,Nat.add_mul_div_left _ _ hQ,Nat.add_mul_mod_self_left,e2]
theorem tk_word {q:Nat} (hq:q<18446744073709551616) (M i:Nat):sumW (mulLo q (wordN M i)) (cqN q M i) 0=wordN (q*M) i∧mW (mulHi q (wordN M i)+carW (mulLo q (wordN M i)) (cqN q M i) 0)=cqN q M (i+1):=by
 obtain ⟨h1,h2,h3⟩:=ls_word (a:=(q:Int)) (q:=wordN M i) (c:=cqN q M i) (by omega) (word_bd M i) (by have:=cq_lt hq M i;omega)
 obtain ⟨g1,g2⟩:=cq_gen q M (2^(64*i)) 18446744073709551616 (pw_pos i)
 have e:cqN q M (i+1)=(q*(M / 2^(64*i) % 18446744073709551616)+cqN q M i) / 18446744073709551616:=by unfold cqN;rw [pw_succ];exact g1
 have e':((q*(M / 2^(64*i) % 18446744073709551616)+cqN q M i:Nat):Int)=q*wordN M i+cqN q M i:=by rw [Int.natCast_add,Int.natCast_mul];rfl
 have g2':wordN (q*M) i=((q*(M / 2^(64*i) % 18446744073709551616)+cqN q M i:Nat):Int) % 18446744073709551616:=by
  show ((q*M / 2^(64*i) % 2^64:Nat):Int)=_
  rw [show (2:Nat)^64=18446744073709551616 from rfl,g2];rfl
 have e'':((cqN q M (i+1):Nat):Int)=((q*(M / 2^(64*i) % 18446744073709551616)+cqN q M i:Nat):Int) / 18446744073709551616:=by rw [e];rfl
 rw [g2',e'',e',h1]
 constructor<;>omega
def wl (k x:Nat):List Int:=(List.range k).map (wordN x)
theorem wl_len (k x:Nat):(wl k x).length=k:=by simp [wl]
theorem wl_bd {k x:Nat}:∀ d∈wl k x,0≤d∧d<18446744073709551616:=fun d hd=>by
 obtain ⟨i,_,rfl⟩:=List.mem_map.1 hd
 exact word_bd x i
theorem natL_sumL:∀ {l:List Int},(∀ d∈l,0≤d∧d<18446744073709551616)→((natL l:Nat):Int)=sumL l
 | [],_=>rfl
 | d::r,h=>by
  have hd:=h d (by simp)
  have ih:=natL_sumL (l:=r) fun d h'=>h d (by simp [h'])
  simp only [natL,sumL]
  omega
theorem natL_wl {k x:Nat} (h:x<2^(64*k)):natL (wl k x)=x:=by
 have:=natL_sumL (wl_bd (k:=k) (x:=x))
 rw [show wl k x=(List.range k).map (wordN x) from rfl,sumL_digits k x h] at this
 exact Int.ofNat.inj this
theorem win_all {l:List Int} {n:Nat} (h:l.length=n):win l 0 n=l:=by subst h;simp [win]
theorem wl_get {k x i:Nat} (h:i<k):(wl k x).getD i 0=wordN x i:=by simp [wl,List.getD_eq_getElem?_getD,h]
theorem wl_of {l:List Int} (h:∀ d∈l,0≤d∧d<18446744073709551616):l=wl l.length (natL l):=(sumL_of l _ h (natL_sumL h)).1
def tkO (L T N i:Nat):List Int:=(List.range N).map fun j=>if j<i then difD L T j else wordN L j
theorem tkO_get {L T N i:Nat} (h:i<N):(tkO L T N i).getD i 0=wordN L i:=by simp [tkO,List.getD_eq_getElem?_getD,h]
theorem tkO_set {L T N i:Nat} (h:i<N):(tkO L T N i).set i (difD L T i)=tkO L T N (i+1):=by
 refine List.ext_getElem? fun j=>?_
 rw [List.getElem?_set]
 by_cases hj:j<N
 ·by_cases e:i=j
  ·subst e;simp [tkO,h]
  ·simp only [tkO,List.getElem?_map,List.getElem?_range hj,Option.map_some,if_neg e]
   by_cases q:j<i
   ·rw [if_pos q,if_pos (by omega)]
   ·rw [if_neg q,if_neg (by omega)]
 ·have e:i≠j:=by omega
  rw [if_neg e]
  simp [tkO,hj]
theorem tkO_zero (L T N:Nat):tkO L T N 0=wl N L:=by simp [tkO,wl]
theorem tkO_end {L T N:Nat} (hT:T≤L) (hL:L<2^(64*N)):tkO L T N N=wl N (L-T):=by
 have e:tkO L T N N=(List.range N).map (difD L T):=List.map_congr_left fun j hj=>if_pos (List.mem_range.1 hj)
 have h:=dif_num (k:=N) hL (Nat.lt_of_le_of_lt hT hL)
 have e2:(L+(2^(64*N)-T)) % 2^(64*N)=L-T:=by
  rw [show L+(2^(64*N)-T)=(L-T)+2^(64*N) by omega,Nat.add_mod_right,Nat.mod_eq_of_lt (by omega)]
 rw [e2] at h
 have:=(sumL_of ((List.range N).map (difD L T)) (L-T) (fun d hd=>by obtain ⟨i,_,rfl⟩:=List.mem_map.1 hd;exact difD_bd L T i) h).1
 rw [e,this]
 simp [wl]
theorem top_le {L M Q t q:Nat} (hM:M<(t+1)*Q) (hq:q≤L / Q / (t+1)):q*M≤L:=by
 calc q*M≤q*((t+1)*Q):=Nat.mul_le_mul_left _ (by omega)
  _=q*(t+1)*Q:=by rw [Nat.mul_assoc]
  _≤L / Q*Q:=Nat.mul_le_mul_right _ (Nat.le_trans (Nat.mul_le_mul_right _ hq) (Nat.div_mul_le_self _ _))
  _≤L:=Nat.div_mul_le_self _ _
def tkR (N x:Nat):Heap:=[(0,some ⟨24,[.seq .u64 (wl N x)],false⟩)]
section
variable {ms:List Int} {n m M:Nat} (hm:∀ d∈ms,0≤d∧d<18446744073709551616) (hl:n≤ms.length) (hn:n≤1125899906842624) {V:Nat} (hV:natL (win ms 0 n)=V) (h0:0<V) {β0:Env} {w0:World} (hb:∀ b,2≤b→β0 b=none)
include hm hl hn hV h0 hb
omit h0 in
theorem tk_inner {L q:Nat} (hq:q<18446744073709551616) {R:Ending→World→Prop} (hk:ASafe Tryz.prog 212 β0 w0 R Tryz.f212.ntmps [0] (tkS (tkO L (q*V) (n+1) (n+1)) ms n m (n+1) M [])) :
  ∀ r i,i+r=n+1→ASafe Tryz.prog 212 β0 w0 R Tryz.f212.ntmps [0] (tkS2 (tkO L (q*V) (n+1) i) ms n m (n+1) M q (bch L (q*V) i) i (cqN q V i) []):=by
 intro r
 induction r with
 | zero =>
  intro i hi
  obtain rfl:i=n+1:=by omega
  exact path_safe [false] (seg_safe (orc_ok S22ok K0ok) mixed (tk_next ..) ⟨by simp only [hasB,Bool.and_eq_true,decide_eq_true_eq];omega,by simp,trivial⟩ (wfB_ok (by kernel_rfl)) hb (fun _ h=>by cases h) fun _=>hk)
 | succ r ih =>
  intro i hi
  obtain ⟨w1,w2⟩:=tk_word hq V i
  have ha:atV ms 0 n i=wordN V i:=by rw [← hV];exact atV_word (off:=0) (n:=n) hm i
  have ei:0+(i:Int).toNat*1=i:=by omega
  have hlen:(tkO L (q*V) (n+1) i).length=n+1:=by simp [tkO]
  refine path_safe [true] (seg_safe (orc_ok S22ok K0ok) mixed (tk_step ..) ?_ (wfB_ok (by kernel_rfl)) hb (fun k h=>by simpa using h) fun _=>?_)
  ·rw [ei,hlen]
   refine ⟨by simp only [hasB,Bool.and_eq_true,decide_eq_true_eq];omega,by simp<;>omega,Nat.ble_eq_true_of_le (by omega),by simp only [hasB,Bool.and_eq_true,decide_eq_true_eq];omega,by simp,rfl,by simp<;>omega,by simp<;>omega,is01_of (bch_bd L _ i),by simp<;>omega,by simp<;>omega,trivial⟩
  ·unfold tkl tks
   rw [ei,ha,w1,w2,tkO_get (by omega),wI_eq (z:=(i:Int)+1) (by omega)]
   show ASafe _ _ _ _ _ _ _ (tkS2 ((tkO L (q*V) (n+1) i).set i (difD L (q*V) i)) _ _ _ _ _ _ (bch L (q*V) (i+1)) _ _ _)
   rw [tkO_set (by omega)]
   exact ih (i+1) (by omega)
theorem tk_safe:∀ L,L<2^(64*(n+1))→ASafe Tryz.prog 212 β0 w0 (Outs β0 w0 [0] (.tup []) (tkR (n+1) (L % V))) Tryz.f212.ntmps [0] (tkS (wl (n+1) L) ms n m (n+1) M []):=by
 intro L
 induction L using Nat.strongRecOn with
 | _ L ih =>
 intro hL
 have hlen:=wl_len (n+1) L
 have hwin:natL (win (wl (n+1) L) 0 (n+1))=L:=by rw [win_all hlen,natL_wl hL]
 have hbN:hasB .i64 ((n+1:Nat):Int)=true:=by simp only [hasB,Bool.and_eq_true,decide_eq_true_eq];omega
 have hbn:hasB .i64 (n:Int)=true:=by simp only [hasB,Bool.and_eq_true,decide_eq_true_eq];omega
 have hC:∀ d r,decide (V≤L)=d→okConds r→okConds (tkC (wl (n+1) L) ms n (n+1) d r):=by
  intro d r hd hr
  refine ⟨Nat.ble_eq_true_of_le (by omega),Nat.ble_eq_true_of_le (by omega),hbN,hbn,?_,hr⟩
  rw [hwin,hV,← hd]
  unfold cmpI
  by_cases h:V≤L
  ·rw [if_neg (by omega)];split<;>simp [h]
  ·rw [if_pos (by omega)];simp [h]
 by_cases hle:V≤L
 ·have n1:1≤n:=by
   rcases Nat.eq_zero_or_pos n with e | e
   ·subst e;rw [show win ms 0 0=[] by simp [win]] at hV;simp [natL] at hV;omega
   ·exact e
  have hnI:nI n=((n-1:Nat):Int):=by unfold nI;rw [wI_eq (by omega)];omega
  have htm:tkM ms n=wordN V (n-1):=by
   have:=atV_word (off:=0) (n:=n) hm (n-1)
   rw [hV] at this
   unfold tkM
   rw [hnI,Int.toNat_natCast,Nat.mul_one,← bit_word (n:=n) (by omega)]
   unfold atV win at this
   rw [Int.toNat_natCast] at this
   exact this
  have htl:tkL (wl (n+1) L) n=wordN L n:=by unfold tkL;rw [Int.toNat_natCast,Nat.mul_one,Nat.zero_add,wl_get (by omega)]
  have htl2:(wl (n+1) L).getD (0+(nI n).toNat*1) 0=wordN L (n-1):=by rw [hnI,Int.toNat_natCast,Nat.mul_one,Nat.zero_add,wl_get (by omega)]
  have bt:=word_bd V (n-1)
  have bl:=word_bd L n
  have hVlt:V<2^(64*n):=by
   have:=natL_lt (win ms 0 n) (win_has hm)
   rw [hV] at this
   unfold win at this
   rwa [List.length_take,List.length_drop,Nat.min_eq_left (by omega)] at this
  obtain ⟨k,rfl⟩:∃ k,n=k+1:=⟨n-1,by omega⟩
  rw [Nat.add_sub_cancel] at *
  have tV:wordN V k=((V / 2^(64*k):Nat):Int):=by
   show ((V / 2^(64*k) % 2^64:Nat):Int)=_
   rw [Nat.mod_eq_of_lt]
   refine Nat.div_lt_of_lt_mul ?_
   rw [← Nat.pow_add];rwa [show 64*k+64=64*(k+1) by omega]
  have tL:wordN L (k+1)=((L / 2^(64*(k+1)):Nat):Int):=by
   show ((L / 2^(64*(k+1)) % 2^64:Nat):Int)=_
   rw [Nat.mod_eq_of_lt]
   refine Nat.div_lt_of_lt_mul ?_
   rw [← Nat.pow_add];rwa [show 64*(k+1)+64=64*(k+1+1) by omega]
  have tL2:((L / 2^(64*k):Nat):Int)=wordN L (k+1)*18446744073709551616+wordN L k:=by
   rw [tL]
   show _=_+((L / 2^(64*k) % 2^64:Nat):Int)
   rw [pw_succ,← Nat.div_div_eq_div_mul]
   omega
  have hMb:V<(V / 2^(64*k)+1)*2^(64*k):=by rw [Nat.mul_comm];exact Nat.lt_mul_div_succ V (pw_pos k)
  have hD:∀ d r,decide (wordN V k+1=18446744073709551616)=d→okConds r→okConds (tkD (wl (k+1+1) L) ms (k+1) (k+1+1) d r):=by
   intro d r hd hr
   refine ⟨by rw [hnI];simp<;>omega,by rw [hnI];simp<;>omega,?_,by simp<;>omega,by rw [hlen];simp<;>omega,hr⟩
   rw [htm,← hd,mW_eq]
   by_cases h:wordN V k+1=18446744073709551616
   ·simp [h]
   ·rw [decide_eq_false h,decide_eq_false (by omega)]
  have fin:∀ (q:Nat),1≤q→q<18446744073709551616→q*V≤L→ASafe Tryz.prog 212 β0 w0 (Outs β0 w0 [0] (.tup []) (tkR (k+1+1) (L % V))) Tryz.f212.ntmps [0] (tkS2 (wl (k+1+1) L) ms (k+1) m (k+1+1) M q 0 0 0 []):=by
   intro q q1 q2 q3
   have hpos:0<q*V:=Nat.mul_pos q1 h0
   have hh:=ih (L-q*V) (by omega) (by omega)
   have e:(L-q*V) % V=L % V:=by
    have:=Nat.sub_mul_mod (x:=L) (n:=V) (k:=q) (by rw [Nat.mul_comm];exact q3)
    rwa [Nat.mul_comm] at this
   rw [e,← tkO_end q3 hL] at hh
   have:=tk_inner hm hl hn hV hb (m:=m) (M:=M) q2 hh (k+1+1) 0 (by omega)
   rw [tkO_zero] at this
   have c0:((cqN q V 0:Nat):Int)=0:=by unfold cqN;simp [Nat.mod_one]
   rw [c0] at this
   exact this
  have go:∀ (qc:Ch) (q:Nat),nv qc=.v (.int .u64 q)→1≤q→q<18446744073709551616→q*V≤L→ASafe Tryz.prog 212 β0 w0 (Outs β0 w0 [0] (.tup []) (tkR (k+1+1) (L % V))) Tryz.f212.ntmps [0] (tkS1 (wl (k+1+1) L) ms (k+1) m (k+1+1) M qc):=by
   intro qc q hqc q1 q2 q3
   refine nv_safe ?_
   have:=fin q q1 q2 q3
   have e:(tkT2 (k+1) m (k+1+1) M qc (.n .u64 0) (.n .i64 0) (.n .u64 0)).map nvA=tkT2 (k+1) m (k+1+1) M (.v (.int .u64 q)) (.v (.int .u64 0)) (.v (.int .i64 0)) (.v (.int .u64 0)):=by
    unfold tkT2
    simp only [List.map_cons,List.map_replicate,nvA,List.map_nil,hqc]
    rfl
   rw [e];exact this
  have one:∀ q:Nat,q<18446744073709551616→q*V≤L→1≤max 1 q∧max 1 q<18446744073709551616∧max 1 q*V≤L∧max1 (q:Int)=((max 1 q:Nat):Int):=by
   intro q h1 h2
   refine ⟨by omega,by omega,?_,by unfold max1;split<;>omega⟩
   rcases Nat.eq_zero_or_pos q with rfl | hq
   ·simpa using hle
   ·rw [Nat.max_eq_right hq];exact h2
  by_cases ht:wordN V k+1=18446744073709551616
  ·have hq:L / 2^(64*(k+1))*V≤L:=Nat.le_trans (Nat.mul_le_mul_left _ (by omega)) (Nat.div_mul_le_self L (2^(64*(k+1))))
   obtain ⟨a1,a2,a3,a4⟩:=one (L / 2^(64*(k+1))) (by omega) hq
   refine path_safe [true,true] (seg_safe (orc_ok S22ok K0ok) mixed (tk_top ..) (hC true _ (decide_eq_true hle) (hD true _ (decide_eq_true ht) trivial)) (wfB_ok (by kernel_rfl)) hb (fun _ h=>by cases h) fun _=>?_)
   rw [htl,tL,a4]
   exact go _ _ rfl a1 a2 a3
  ·have hmw:mW (tkM ms (k+1)+1)=((V / 2^(64*k)+1:Nat):Int):=by rw [htm,mW_eq,tV];omega
   by_cases hlt:wordN L (k+1)<wordN V k+1
   ·have hq:tkQ (wl (k+1+1) L) ms (k+1)=((L / 2^(64*k) / (V / 2^(64*k)+1):Nat):Int):=by
     unfold tkQ
     rw [hmw,htl,htl2,Int.toNat_natCast]
     have:(wordN L (k+1)).toNat*W64+(wordN L k).toNat=L / 2^(64*k):=by
      have:=word_bd L k
      unfold W64
      omega
     rw [this]
    have hb1:L / 2^(64*k) / (V / 2^(64*k)+1)<18446744073709551616:=by
     refine Nat.div_lt_of_lt_mul ?_
     have:=word_bd L k
     omega
    obtain ⟨a1,a2,a3,a4⟩:=one _ hb1 (top_le hMb (Nat.le_refl _))
    refine path_safe [true,false,true] (seg_safe (orc_ok S22ok K0ok) mixed (tk_div ..) (hC true _ (decide_eq_true hle) (hD false _ (decide_eq_false ht) ?_)) (wfB_ok (by kernel_rfl)) hb (fun _ h=>by cases h) fun _=>?_)
    ·have h4:tkL (wl (k+1+1) L) (k+1)<mW (tkM ms (k+1)+1):=by rw [htl,hmw];omega
     refine ⟨decide_eq_true h4,by simp<;>omega,by rw [hlen];simp<;>omega,by rw [hnI];simp<;>omega,by rw [hnI,hlen];simp<;>omega,decide_eq_true h4,trivial⟩
    ·rw [hq,a4]
     exact go _ _ rfl a1 a2 a3
   ·refine path_safe [true,false,false] (seg_safe (orc_ok S22ok K0ok) mixed (tk_one ..) (hC true _ (decide_eq_true hle) (hD false _ (decide_eq_false ht) ⟨decide_eq_false (by rw [htl,hmw];omega),trivial⟩)) (wfB_ok (by kernel_rfl)) hb (fun _ h=>by cases h) fun _=>?_)
    exact go _ 1 rfl (by omega) (by omega) (by omega)
 ·rw [Nat.mod_eq_of_lt (by omega)]
  exact path_safe [false] (out_safe (orc_ok S22ok K0ok) mixed Tryz.func212 (tk_exit ..) (hC false _ (decide_eq_false hle) trivial) (wfB_ok (by kernel_rfl)) hb (fun _ h=>by cases h))
end
theorem tk_can {ms:List Int} {n m M:Nat} (hm:∀ d∈ms,0≤d∧d<18446744073709551616) (hl:n≤ms.length) (hn:n≤1125899906842624) (h0:0<natL (win ms 0 n)) {ls:List Int} (hls:∀ d∈ls,0≤d∧d<18446744073709551616) (hlen:ls.length=n+1) :
  CanOk Tryz.prog 212 (tkA n m (n+1) M) (tkH ls ms) 2 [0] (.tup []) (tkR (n+1) (natL ls % natL (win ms 0 n))):=by
 refine can_entry (path:=[]) Tryz.func212 (by kernel_rfl) (by kernel_rfl) fun β0 w0 hb=>?_
 refine seg_safe (orc_ok S22ok K0ok) mixed (tk_entry ..) trivial (wfB_ok (by kernel_rfl)) hb (fun _ h=>by cases h) fun _=>?_
 have e:=wl_of hls
 rw [hlen] at e
 have hlt:=natL_lt ls hls
 rw [hlen] at hlt
 have:=tk_safe hm hl hn rfl h0 (m:=m) (M:=M) (w0:=w0) hb (natL ls) hlt
 rw [← e] at this
 exact this
end Go.Proofs.YtjlcdlekmpjjnaaGreat
/- limb.Mod, by a number whose highest word is not 0: the contract. -/
namespace Go.Proofs.YtjlcdlekmpjjnaaGreat
open Ex Num
set_option maxRecDepth 100000
set_option maxHeartbeats 4000000
def takeSpec:ASpec:=fun args H fr path =>
 match args with
 | [.val false [.sl k off N _],.val false [.sl t off' n _],I]=>match asI (some I),hget H k,hget H t with
  | some (_,.i64,i),some ⟨ty,cs,false⟩,some ⟨_,ds,_⟩=>match toSeq .u64 cs,toSeq .u64 ds,Nat.beq k t,Nat.beq off 0&&(Nat.beq off' 0&&Nat.beq ty 24) with
   | some ls,some ms,false,true=>some (trR [k,t] 2 fr 0 [0] (.tup []) (tkR N (natL ls % natL (win ms 0 n))) [(Nat.beq N (n+1),true),(Nat.beq N ls.length,true),(Nat.ble n ms.length,true),(Nat.ble n 1125899906842624,true),(decide (i=n),true),(Nat.blt 0 (natL (win ms 0 n)),true)] path)
   | _,_,_,_=>none
  | _,_,_=>none
 | _=>none
theorem takeSpec_ok:SpecOk Tryz.prog 212 takeSpec:=by
 refine can_spec2 Tryz.func212 (by kernel_rfl) (by kernel_rfl) fun args H fr path r h=>?_
 unfold takeSpec at h
 split at h
 case h_2=>cases h
 rename_i k off N M t off' n m I
 split at h
 case h_2=>cases h
 rename_i c0 i ty cs ty' ds o' hI hk ht
 split at h
 case h_2=>cases h
 rename_i ls ms hls hms hkt hoff
 injection h with h
 simp only [Bool.and_eq_true] at hoff
 obtain ⟨o1,o2,o3⟩:=hoff
 obtain rfl:=nbeq.1 o1
 obtain rfl:=nbeq.1 o2
 obtain rfl:=nbeq.1 o3
 refine ⟨[k,t],2,0,[0],_,_,_,path,h.symm,fun β us w ha hg hc=>?_⟩
 obtain ⟨u1,us1,r1,⟨u2,us2,r2,⟨u3,us3,r3,ha,rfl⟩,rfl⟩,rfl⟩:=ha
 obtain ⟨c1,c2,c3,c4,c5,c6,_⟩:=hc
 obtain rfl:=nbeq.1 c1
 have hil:i=(n:Int):=by simpa using c5
 subst hil
 obtain ⟨l1,g1⟩:=hget_rel hg hk
 obtain ⟨_,b1⟩:=toSeq_rel hls g1
 obtain ⟨l2,g2⟩:=hget_rel hg ht
 obtain ⟨_,b2⟩:=toSeq_rel hms g2
 obtain ⟨rfl,p1⟩:=asI_rel (β:=β) (u:=u3) (fun A hA=>by injection hA with hA;subst hA;exact r3) hI
 have hne:k≠t:=nbeq_false hkt
 refine ⟨tkA n m (n+1) M,tkH ls ms,tk_can (fun d hd=>u64_bounds (b2 d hd)) (Nat.le_of_ble_eq_true c3) (Nat.le_of_ble_eq_true c4) (nblt.1 c6) (fun d hd=>u64_bounds (b1 d hd)) (nbeq.1 c2).symm,by kernel_rfl,
  ⟨u1,_,sl_in (by omega) rfl r1,⟨u2,_,sl_in (by omega) rfl r2,⟨_,us3,rel_one' ⟨rfl,rfl,p1⟩,ha,rfl⟩,rfl⟩,rfl⟩,?_,fun j hj=>?_⟩
 ·refine good_enum (ρ:=[k,t]) (bs:=[⟨24,[.seq .u64 ls],false⟩,roB [.seq .u64 ms]]) hg (fun j d hj=>?_) fun i j d hi hr hij hj=>?_
  ·match j,hj with
   | 0,hj =>
    injection hj with hj;subst hj
    refine ⟨_,hk,.inr ⟨rfl,rfl⟩,fun l hl=>?_⟩
    obtain ⟨q1,q2⟩:=toSeq_rel hls hl
    exact ⟨_,[],⟨q1,q2⟩,rfl,by simp⟩
   | 1,hj =>
    injection hj with hj;subst hj
    refine ⟨_,ht,.inl rfl,fun l hl=>?_⟩
    obtain ⟨q1,q2⟩:=toSeq_rel hms hl
    exact ⟨_,[],⟨q1,q2⟩,rfl,by simp⟩
  ·match i,j,hi,hj,hij with
   | 0,1,_,_,_=>exact hne
   | 1,_,hi,_,_=>injection hi with hi;subst hi;exact absurd rfl hr
   | 0,0,_,_,q=>exact absurd rfl q
 ·match j,hj with
  | 0,_=>exact relB_def (hg.heap _ _ hk)
  | 1,_=>exact relB_def (hg.heap _ _ ht)
noncomputable def SIa:List (FuncId×ASpec):=(212,takeSpec)::S22
theorem SIaok:SpecsOk Tryz.prog SIa:=⟨takeSpec_ok,S22ok⟩
noncomputable abbrev oMd:Orc:=orc SIa K0
theorem oMdok:OrcOk Tryz.prog oMd:=orc_ok SIaok K0ok
def mdA (off n m N M:Nat):List AV:=[.val false [.sl 0 off N M],.val false [.sl 1 0 n m]]
noncomputable def mdTodo:List Item:=todoOf (aSeg Tryz.prog oMd (some 0) 100 2 none (entry Tryz.f130 (mdA 0 0 0 0 0) (seqH2 [] []) 2 []))
noncomputable def mdT (off n m N M:Nat) (k:Int):List AV:=.val false [.sl 0 off N M]::.val false [.sl 1 0 n m]::.any::.any::.val false [.v (.slice none 0 0)]::.val false [.n .i64 0]::.val false [.v (.int .i64 k)]::List.replicate (Tryz.f130.ntmps-7) .any
noncomputable def mdS (off:Nat) (xs ms:List Int) (n m N M:Nat) (k:Int) (p:List Bool):ASt:=⟨mdTodo,⟨mdT off n m N M k,seqH2 xs ms,2,p⟩⟩
noncomputable def mdTodo2:List Item:=todoOf (aSeg Tryz.prog oMd (some 0) 100 2 none (mdS 0 [] [] 0 0 0 0 0 [true,false,false]))
noncomputable def mdT2 (off n m N M L:Nat) (k i:Int):List AV:=.val false [.sl 0 off N M]::.val false [.sl 1 0 n m]::.any::.any::.val false [.v (.slice none 0 0)]::.val false [.n .i64 0]::.val false [.v (.int .i64 k)]::.val false [.sl 2 0 L L]::.val false [.v (.int .i64 i)]::List.replicate (Tryz.f130.ntmps-9) .any
noncomputable def mdS2 (off:Nat) (xs ms ls:List Int) (n m N M L:Nat) (k i:Int) (p:List Bool):ASt:=⟨mdTodo2,⟨mdT2 off n m N M L k i,[(0,some (roB [.seq .u64 xs])),(1,some (roB [.seq .u64 ms])),(2,some ⟨24,[.seq .u64 ls],false⟩)],3,p⟩⟩
def shw (L:Nat) (ls:List Int) (x:Int):List Int:=(List.take (0+Int.toNat 1*1) ls++(List.take (Nat.min L (L-Int.toNat 1)) (List.drop 0 ls)++List.drop (0+Int.toNat 1*1+Nat.min L (L-Int.toNat 1)*1) ls)).set (0+Int.toNat 0*1) x
def shl0 (L:Nat) (ls:List Int):List Int:=List.take (0+Int.toNat 1*1) ls++(List.take (Nat.min L (L-Int.toNat 1)) (List.drop 0 ls)++List.drop (0+Int.toNat 1*1+Nat.min L (L-Int.toNat 1)*1) ls)
def wn1 (n:Nat):Int:=wI ((n:Int)+1)
section
variable (off:Nat) (xs ms ls:List Int) (n m N M L:Nat) (k i:Int)
theorem md_entry:aSeg Tryz.prog oMd (some 0) 100 2 (some ([0,1,4,5,6],[0,1],2)) (entry Tryz.f130 (mdA off n m N M) (seqH2 xs ms) 2 [])=some ([(hasB .i64 n,true)],[],mdS off xs ms n m N M n []):=by kernel_rfl
theorem md_made:aSeg Tryz.prog oMd (some 0) 100 2 (some ([0,1,4,5,6,7,8],[0,1,2],3)) (mdS off xs ms n m N M k [true,false,false]) =
 some ([(decide (0<k),true),(decide (0≤wI (k-1)∧wI (k-1)<n),true),(decide (0+(wI (k-1)).toNat*1<ms.length),true),(decide (ms.getD (0+(wI (k-1)).toNat*1) 0=0),false),(decide (k=0),false),(hasB .i64 n,true),
  (decide (0≤wn1 n∧wn1 n≤wn1 n∧((8:Nat):Int)*wn1 n≤281474976710656∧wn1 n≤9223372036854775807),true),(hasB .i64 N,true)],[],
  mdS2 off xs ms (List.replicate (wn1 n).toNat 0) n m N M (wn1 n).toNat k (wI ((N:Int)-1)) []):=by kernel_rfl
theorem md_step:aSeg Tryz.prog oMd (some 0) 100 2 (some ([0,1,4,5,6,7,8],[0,1,2],3)) (mdS2 off xs ms ls n m N M L k i [true,false]) =
 some ([(decide (0≤i),true),(decide ((0:Int)≤1∧1≤(L:Int)),true),(Nat.beq L (Int.toNat 1),false),(Nat.ble (0+Nat.min L (L-Int.toNat 1)) ls.length,true),(Nat.ble (0+Int.toNat 1*1+Nat.min L (L-Int.toNat 1)*1) ls.length,true),
  (decide (0≤i∧i<N),true),(decide (off+i.toNat*1<xs.length),true),(decide ((0:Int)≤0∧0<(L:Int)),true),(decide (0+Int.toNat 0*1<(shl0 L ls).length),true),(decide (0≤k∧k≤m),true),(true,true),
  (Nat.beq L (k.toNat-0+1),true),(Nat.beq L (shw L ls (xs.getD (off+i.toNat*1) 0)).length,true),(Nat.ble (k.toNat-0) ms.length,true),(Nat.ble (k.toNat-0) 1125899906842624,true),(decide (k=((k.toNat-0:Nat):Int)),true),(Nat.blt 0 (natL (win ms 0 (k.toNat-0))),true)],[],
  mdS2 off xs ms (wl L (natL (shw L ls (xs.getD (off+i.toNat*1) 0)) % natL (win ms 0 (k.toNat-0)))) n m N M L k (wI (i-1)) []):=by kernel_rfl
def mdV (n L:Nat):AV:=.tup [(false,[.sl 2 0 ((n:Int).toNat-0) (L-0)]),(false,[.n .i64 0])]
def mdH (L x:Nat):Heap:=[(2,some ⟨24,[.seq .u64 (wl L x)],false⟩)]
theorem md_exit:segOut Tryz.prog oMd Tryz.f130 100 2 [2] (mdS2 off xs ms ls n m N M L k i [false]) =
 some ([(decide (0≤i),false),(hasB .i64 n,true),(decide (0≤(n:Int)∧(n:Int)≤L),true),(true,true)],[],mdV n L,[(2,some ⟨24,[.seq .u64 ls],false⟩)]):=by kernel_rfl
end
theorem shw_eq {n:Nat} {ls:List Int} (h:ls.length=n+1) (x:Int):shw (n+1) ls x=x::ls.take n:=by
 obtain ⟨a,r,rfl⟩:∃ a r,ls=a::r:=by cases ls with | nil=>simp at h | cons a r=>exact ⟨a,r,rfl⟩
 have e1:Int.toNat 1=1:=rfl
 have e0:Int.toNat 0=0:=rfl
 have e2:Nat.min (n+1) (n+1-1)=n:=Nat.min_eq_right (by omega)
 unfold shw
 rw [e1,e0,e2]
 have e3:List.drop (0+1*1+n*1) (a::r)=[]:=List.drop_eq_nil_of_le (by simp at h ⊢;omega)
 rw [e3]
 simp
theorem wl_take (n X:Nat):(wl (n+1) X).take n=wl n X:=by
 unfold wl
 rw [← List.map_take,List.range_succ,List.take_left' (by simp)]
theorem shl0_len {n:Nat} {ls:List Int} (h:ls.length=n+1):0<(shl0 (n+1) ls).length:=by
 unfold shl0
 rw [List.length_append,List.length_take,h]
 have e1:Int.toNat 1=1:=rfl
 rw [e1];omega
theorem wl_zero (n:Nat):wl n 0=List.replicate n 0:=by
 unfold wl
 refine List.ext_getElem? fun i=>?_
 by_cases h:i<n
 ·simp [h,wordN]
 ·simp [h]
theorem md_can {xs ms:List Int} {off n m N M:Nat} (hx:∀ d∈xs,0≤d∧d<18446744073709551616) (hm:∀ d∈ms,0≤d∧d<18446744073709551616) (hl:off+N≤xs.length) (hN:hasB .i64 N=true) (hl':n+1≤ms.length) (hn:n+1≤1099511627776) (hnm:n+1≤m) (ht:ms.getD n 0≠0) :
  CanOk Tryz.prog 130 (mdA off (n+1) m N M) (seqH2 xs ms) 2 [] (.tup [(false,[.sl 2 0 (n+1) (n+1+1)]),(false,[.n .i64 0])]) (mdH (n+1+1) (natL (win xs off N) % natL (win ms 0 (n+1)))):=by
 have bN:N≤9223372036854775807:=by simp only [hasB,Bool.and_eq_true,decide_eq_true_eq] at hN;omega
 have hbn:hasB .i64 ((n+1:Nat):Int)=true:=by simp only [hasB,Bool.and_eq_true,decide_eq_true_eq];omega
 have hV0:0<natL (win ms 0 (n+1)):=by
  have:=natL_word (win ms 0 (n+1)) n (win_has hm)
  rw [show (win ms 0 (n+1)).getD n 0=ms.getD n 0 from by unfold win;rw [bit_word (by omega),Nat.zero_add]] at this
  have hb:=getD_bd hm n
  rcases Nat.eq_zero_or_pos (natL (win ms 0 (n+1))) with e | e
  ·rw [e,Nat.zero_div,Nat.zero_mod] at this
   omega
  ·exact e
 have hVlt:natL (win ms 0 (n+1))<2^(64*(n+1)):=by
  have:=natL_lt (win ms 0 (n+1)) (win_has hm)
  unfold win at this ⊢
  rwa [List.length_take,List.length_drop,Nat.min_eq_left (by omega)] at this
 refine can_entry (path:=[]) Tryz.func130 (by kernel_rfl) (by kernel_rfl) fun β0 w0 hb=>?_
 refine seg_safe oMdok mixed (md_entry ..) ⟨hbn,trivial⟩ (wfB_ok (by kernel_rfl)) hb (fun _ h=>by cases h) fun _=>?_
 have e1:wI (((n+1:Nat):Int)-1)=(n:Int):=by rw [wI_eq (by omega)];omega
 have e2:wn1 (n+1)=((n+1+1:Nat):Int):=by unfold wn1;rw [wI_eq (by omega)];omega
 refine path_safe [true,false,false] (seg_safe oMdok mixed (md_made ..) ?_ (wfB_ok (by kernel_rfl)) hb (fun _ h=>by cases h) fun _=>?_)
 ·rw [e1,e2]
  refine ⟨by simp<;>omega,by simp<;>omega,by simp<;>omega,?_,by simp<;>omega,hbn,by simp only [decide_eq_true_eq];omega,hN,trivial⟩
  rw [Int.toNat_natCast,Nat.mul_one,Nat.zero_add]
  exact decide_eq_false ht
 rw [e2,Int.toNat_natCast,← wl_zero]
 generalize hA:natL (win xs off N)=A
 have hNw:(win xs off N).length=N:=by unfold win;rw [List.length_take,List.length_drop];omega
 have hA2:A<2^(64*N):=by rw [← hA];have:=natL_lt (win xs off N) (win_has hx);rwa [hNw] at this
 generalize hV:natL (win ms 0 (n+1))=V at *
 have loop:∀ c,c≤N→ASafe Tryz.prog 130 β0 w0 (Outs β0 w0 [] (.tup [(false,[.sl 2 0 (n+1) (n+1+1)]),(false,[.n .i64 0])]) (mdH (n+1+1) (A % V))) Tryz.f130.ntmps [] (mdS2 off xs ms (wl (n+1+1) (A / 2^(64*c) % V)) (n+1) m N M (n+1+1) ((n+1:Nat):Int) ((c:Int)-1) []):=by
  intro c
  induction c with
  | zero =>
   intro _
   rw [Nat.mul_zero,Nat.pow_zero,Nat.div_one]
   have h:=out_safe (w0:=w0) (W:=[]) (n:=Tryz.f130.ntmps) oMdok mixed Tryz.func130 (md_exit off xs ms (wl (n+1+1) (A % V)) (n+1) m N M (n+1+1) ((n+1:Nat):Int) (((0:Nat):Int)-1)) ⟨rfl,hbn,by simp<;>omega,rfl,trivial⟩ (wfB_ok (by kernel_rfl)) hb (fun _ h=>by cases h)
   have e:mdV (n+1) (n+1+1)=.tup [(false,[.sl 2 0 (n+1) (n+1+1)]),(false,[.n .i64 0])]:=by unfold mdV;rw [Int.toNat_natCast];rfl
   rw [e] at h
   exact path_safe [false] h
  | succ c ih =>
   intro hc
   have hi:((c+1:Nat):Int)-1=(c:Int):=by omega
   rw [hi]
   have hlen:=wl_len (n+1+1) (A / 2^(64*(c+1)) % V)
   have hk:((n+1:Nat):Int).toNat-0=n+1:=by omega
   have t1:Int.toNat 1=1:=rfl
   refine path_safe [true,false] (seg_safe oMdok mixed (md_step ..) ?_ (wfB_ok (by kernel_rfl)) hb (fun k h=>by cases h) fun _=>?_)
   ·rw [hk,hV,shw_eq hlen,hlen,t1]
    have e5:Nat.min (n+1+1) (n+1+1-1)=n+1:=Nat.min_eq_right (by omega)
    rw [e5]
    refine ⟨by simp,by simp<;>omega,nbeq_ne (by omega),Nat.ble_eq_true_of_le (by omega),Nat.ble_eq_true_of_le (by omega),by simp<;>omega,by simp<;>omega,by simp<;>omega,decide_eq_true (shl0_len hlen),by simp<;>omega,rfl,nbeq.2 rfl,nbeq.2 ?_,Nat.ble_eq_true_of_le (by omega),Nat.ble_eq_true_of_le (by omega),by simp,nblt.2 hV0,trivial⟩
    rw [List.length_cons,List.length_take,hlen];omega
   ·rw [hk,hV,shw_eq hlen,wl_take,wI_eq (z:=(c:Int)-1) (by omega)]
    have hs:=natL_split (win_has (off:=off) (n:=N) hx) c
    rw [hA,show (win xs off N).getD c 0=xs.getD (off+(c:Int).toNat*1) 0 from by unfold win;rw [bit_word (by omega),Int.toNat_natCast,Nat.mul_one]] at hs
    have e6:natL (xs.getD (off+(c:Int).toNat*1) 0::wl (n+1) (A / 2^(64*(c+1)) % V)) % V=A / 2^(64*c) % V:=by
     simp only [natL]
     rw [natL_wl (Nat.lt_trans (Nat.mod_lt _ hV0) hVlt),hs]
     conv=>lhs;rw [Nat.add_mod,Nat.mul_mod,Nat.mod_mod,← Nat.mul_mod,← Nat.add_mod]
    rw [e6]
    exact ih (by omega)
 have:=loop N (Nat.le_refl _)
 rw [Nat.div_eq_of_lt hA2,Nat.zero_mod] at this
 rw [wI_eq (z:=(N:Int)-1) (by omega)]
 exact this
end Go.Proofs.YtjlcdlekmpjjnaaGreat
/- limb.Mod on offer; fp.Wide: the contract. -/
namespace Go.Proofs.YtjlcdlekmpjjnaaGreat
open Ex Num
set_option maxRecDepth 100000
set_option maxHeartbeats 4000000
def modSpec:ASpec:=fun args H fr path =>
 match args with
 | [S,.val false [.sl t off' n m]]=>match asSl S with
  | some (k,off,N)=>match hget H k,hget H t with
   | some ⟨_,cs,_⟩,some ⟨_,ds,_⟩=>match toSeq .u64 cs,toSeq .u64 ds,Nat.beq off' 0 with
    | some xs,some ms,true=>some (trR [k,t] 2 fr 1 [] (.tup [(false,[.sl 2 0 n (n+1)]),(false,[.n .i64 0])]) (mdH (n+1) (natL (win xs off N) % natL (win ms 0 n)))
      [(Nat.ble (off+N) xs.length,true),(hasB .i64 N,true),(Nat.ble n ms.length,true),(Nat.ble n 1099511627776,true),(Nat.ble n m,true),(Nat.blt 0 n,true),(decide (ms.getD (n-1) 0=0),false)] path)
    | _,_,_=>none
   | _,_=>none
  | none=>none
 | _=>none
theorem modSpec_ok:SpecOk Tryz.prog 130 modSpec:=by
 refine can_spec2 Tryz.func130 (by kernel_rfl) (by kernel_rfl) fun args H fr path r h=>?_
 unfold modSpec at h
 split at h
 case h_2=>cases h
 rename_i S t off' n m
 split at h
 case h_2=>cases h
 rename_i k off N hS
 split at h
 case h_2=>cases h
 rename_i ty cs o ty' ds o' hk ht
 split at h
 case h_2=>cases h
 rename_i xs ms hxs hms hoff
 obtain rfl:=nbeq.1 hoff
 injection h with h
 refine ⟨[k,t],2,1,[],_,_,_,path,h.symm,fun β us w ha hg hc=>?_⟩
 obtain ⟨u1,us1,r1,⟨u2,us2,r2,ha,rfl⟩,rfl⟩:=ha
 obtain ⟨M,r1⟩:=asSl_rel hS r1
 obtain ⟨c1,c2,c3,c4,c5,c6,c7,_⟩:=hc
 obtain ⟨j,rfl⟩:∃ j,n=j+1:=⟨n-1,by have:=nblt.1 c6;omega⟩
 obtain ⟨g1,g1',g2,g3⟩:=good_seq2 hg hk ht hxs hms
 exact ⟨mdA off (j+1) m N M,seqH2 xs ms,md_can g1 g1' (Nat.le_of_ble_eq_true c1) c2 (Nat.le_of_ble_eq_true c3) (Nat.le_of_ble_eq_true c4) (Nat.le_of_ble_eq_true c5) (of_decide_eq_false c7),by kernel_rfl,
  ⟨u1,_,sl_in (by omega) rfl r1,⟨u2,_,sl_in (by omega) rfl r2,ha,rfl⟩,rfl⟩,g2,g3⟩
noncomputable def SId:List (FuncId×ASpec):=(130,modSpec)::SR4
theorem SIdok:SpecsOk Tryz.prog SId:=⟨modSpec_ok,SR4ok⟩
theorem num_of_wl {β β':Env} {k x:Nat} (h:x<2^(64*k)) {l:List Value} (hr:relL β [.seq .u64 (wl k x)] l):relL β' [.num k x] l:=by
 obtain ⟨l1,l2,⟨h1,_⟩,h2,h3⟩:=hr
 simp only [relL] at h2
 subst h1;subst h2
 rw [List.append_nil] at h3
 have:l=words k x:=by
  rw [h3]
  unfold wl words
  rw [List.map_map];rfl
 rw [this]
 exact relL_num h
noncomputable def SIe:List (FuncId×ASpec):=SId
theorem SIeok:SpecsOk Tryz.prog SIe:=SIdok
end Go.Proofs.YtjlcdlekmpjjnaaGreat
/- Powers of p of sums, where p is 0. -/
namespace Go.Proofs.YtjlcdlekmpjjnaaGreat.Rg
set_option maxRecDepth 100000
set_option maxHeartbeats 4000000
section
variable {F:Type} [CR F]
end
end Go.Proofs.YtjlcdlekmpjjnaaGreat.Rg
/- Values of fixed shapes, as cells: numbers modulo p, and what is made of them. -/
namespace Go.Proofs.YtjlcdlekmpjjnaaGreat
open Ex Num Rg
set_option maxRecDepth 100000
set_option maxHeartbeats 4000000
class Sh (α:Type) where
 R:Type
 n:Nat
 av:R→List Ch
 rd:List Ch→Option R
 mo:R→α
 en:α→R
 mo_en:∀ x,mo (en x)=x
 rd_ok:∀ {β β':Env} {cs:List Ch} {l:List Value} {r:R},rd cs=some r→relL β cs l→relL β' (av r) l
open Sh (R av rd mo en mo_en)
def lcat {α:Type}:List α→List α→List α
 | [],l=>l
 | x::r,l=>x::lcat r l
theorem lcat_eq {α:Type}:∀ a b:List α,lcat a b=a++b
 | [],_=>rfl
 | x::r,b=>by simp [lcat,lcat_eq r b]
def rdTwo {A B:Type} (n:Nat) (f:List Ch→Option A) (g:List Ch→Option B) (cs:List Ch):Option (A×B):=match splitCh cs n with
 | some (a,r)=>match f a,g r with
  | some x,some y=>some (x,y)
  | _,_=>none
 | none=>none
theorem rdTwo_ok {A B:Type} {n:Nat} {f:List Ch→Option A} {g:List Ch→Option B} {p:A→List Ch} {q:B→List Ch} {β β':Env} (hf:∀ {cs l r},f cs=some r→relL β cs l→relL β' (p r) l) (hg:∀ {cs l r},g cs=some r→relL β cs l→relL β' (q r) l)
  {cs:List Ch} {l:List Value} {r:A×B} (h:rdTwo n f g cs=some r) (hl:relL β cs l):relL β' (lcat (p r.1) (q r.2)) l:=by
 unfold rdTwo at h
 split at h
 case h_2=>cases h
 rename_i a t h1
 split at h
 case h_2=>cases h
 rename_i x y h2 h3
 injection h with h;subst h
 obtain ⟨q1,q2,_⟩:=split_rel h1 hl
 rw [lcat_eq,← List.take_append_drop n l]
 exact relL_append (hf h2 q1) (hg h3 q2)
instance shFP:Sh FP where
 R:=Nat
 n:=6
 av x:=[.num 6 x]
 rd:=asNum 6
 mo:=tf
 en:=Fin.val
 mo_en:=tf_val
 rd_ok:=num_any
def rdB (cs:List Ch):Option Bool:=match cs with
 | [.b x]=>some x
 | [.v (.bool x)]=>some x
 | _=>none
instance shB:Sh Bool where
 R:=Bool
 n:=1
 av x:=[.v (.bool x)]
 rd:=rdB
 mo x:=x
 en x:=x
 mo_en _:=rfl
 rd_ok {β β' cs l r} h hl:=by
  unfold rdB at h
  split at h
  ·injection h with h;subst h
   obtain ⟨l1,l2,h1,h2,h3⟩:=hl
   exact ⟨l1,l2,⟨h1,rfl,trivial⟩,h2,h3⟩
  ·injection h with h;subst h
   obtain ⟨l1,l2,h1,h2,h3⟩:=hl
   exact ⟨l1,l2,h1,h2,h3⟩
  ·cases h
section
variable {F:Type} [Sh F]
instance shQ [CR F] {β:F}:Sh (Qx β) where
 R:=R F×R F
 n:=Sh.n F+Sh.n F
 av r:=lcat (av r.1) (av r.2)
 rd:=rdTwo (Sh.n F) rd rd
 mo r:=⟨mo r.1,mo r.2⟩
 en x:=(en x.a,en x.b)
 mo_en _:=Qx.ext (mo_en _) (mo_en _)
 rd_ok:=rdTwo_ok Sh.rd_ok Sh.rd_ok
instance shK [CR F] {ξ:F}:Sh (Kx ξ) where
 R:=R F×R F×R F
 n:=Sh.n F+(Sh.n F+Sh.n F)
 av r:=lcat (av r.1) (lcat (av r.2.1) (av r.2.2))
 rd:=rdTwo (Sh.n F) rd (rdTwo (Sh.n F) rd rd)
 mo r:=⟨mo r.1,mo r.2.1,mo r.2.2⟩
 en x:=(en x.a,en x.b,en x.c)
 mo_en _:=Kx.ext (mo_en _) (mo_en _) (mo_en _)
 rd_ok:=rdTwo_ok (q:=fun r:R F×R F=>lcat (av r.1) (av r.2)) Sh.rd_ok (rdTwo_ok Sh.rd_ok Sh.rd_ok)
instance shJ:Sh (J F) where
 R:=R F×R F×R F
 n:=Sh.n F+(Sh.n F+Sh.n F)
 av r:=lcat (av r.1) (lcat (av r.2.1) (av r.2.2))
 rd:=rdTwo (Sh.n F) rd (rdTwo (Sh.n F) rd rd)
 mo r:=⟨mo r.1,mo r.2.1,mo r.2.2⟩
 en x:=(en x.x,en x.y,en x.z)
 mo_en x:=by cases x;simp only [mo_en]
 rd_ok:=rdTwo_ok (q:=fun r:R F×R F=>lcat (av r.1) (av r.2)) Sh.rd_ok (rdTwo_ok Sh.rd_ok Sh.rd_ok)
def ptOf (x y:F) (i:Bool):Pt F:=match i with
 | true=>.inf
 | false=>.pt x y
def pX1 [Zero F]:Pt F→F
 | .inf=>0
 | .pt x _=>x
def pY1 [Zero F]:Pt F→F
 | .inf=>0
 | .pt _ y=>y
def pI1:Pt F→Bool
 | .inf=>true
 | .pt _ _=>false
instance shP [Zero F]:Sh (Pt F) where
 R:=R F×R F×Bool
 n:=Sh.n F+(Sh.n F+1)
 av r:=lcat (av r.1) (lcat (av r.2.1) (av (α:=Bool) r.2.2))
 rd:=rdTwo (Sh.n F) rd (rdTwo (Sh.n F) rd rdB)
 mo r:=ptOf (mo r.1) (mo r.2.1) r.2.2
 en p:=(en (pX1 p),en (pY1 p),pI1 p)
 mo_en p:=by cases p<;>simp only [pX1,pY1,pI1,ptOf,mo_en]
 rd_ok:=rdTwo_ok (q:=fun r:R F×Bool=>lcat (av r.1) (av (α:=Bool) r.2)) Sh.rd_ok (rdTwo_ok Sh.rd_ok shB.rd_ok)
end
def va (α:Type) [Sh α] (r:R α):AV:=.val true (av r)
def ve {α:Type} [Sh α] (x:α):AV:=va α (en x)
section
variable (α β γ:Type) [Sh α] [Sh β] [Sh γ]
def ad [Add α] (r s:R α):R α:=en (mo r+mo s:α)
def su [Sub α] (r s:R α):R α:=en (mo r-mo s:α)
def mu [Mul α] (r s:R α):R α:=en (mo r*mo s:α)
def ng [Neg α] (r:R α):R α:=en (- mo r:α)
def iv [FD α] (r:R α):R α:=en (FD.inv (mo r:α))
def re (r:R α):R α:=en (mo r:α)
def sq1 (g:R α→AV):List AV→Option AV
 | [.val true a]=>match rd a with
  | some r=>some (g r)
  | none=>none
 | _=>none
def sq2 (g:R α→R β→AV):List AV→Option AV
 | [.val true a,.val true b]=>match rd a,rd b with
  | some r,some s=>some (g r s)
  | _,_=>none
 | _=>none
end
section
variable {α β γ:Type} [Sh α] [Sh β] [Sh γ] {P:Program} {f:FuncId}
theorem va_rel {b b':Env} {a:List Ch} {r:R α} {u:Value} (h:rd a=some r) (hr:relA b (.val true a) u):relA b' (va α r) u:=by
 obtain ⟨l,hl,rfl⟩:=hr
 exact ⟨l,Sh.rd_ok h hl,rfl⟩
theorem pure_sh {args:List AV} {cs:List Ch} {r:R α} (h:PureOk P f args (.val true cs)) (hc:rd cs=some r):PureOk P f args (va α r):=pure_val h fun _ hu=>va_rel hc hu
theorem sq1_ok {g:R α→AV} (h:∀ r,PureOk P f [va α r] (g r)):∀ args v,sq1 α g args=some v→PureOk P f args v:=by
 intro args v hs us w ha
 unfold sq1 at hs
 split at hs
 case h_2=>cases hs
 split at hs
 case h_2=>cases hs
 rename_i r h1
 injection hs with hs;subst hs
 obtain ⟨u1,us1,r1,ha,rfl⟩:=ha
 exact h r _ w ⟨u1,_,va_rel h1 r1,ha,rfl⟩
theorem sq2_ok {g:R α→R β→AV} (h:∀ r s,PureOk P f [va α r,va β s] (g r s)):∀ args v,sq2 α β g args=some v→PureOk P f args v:=by
 intro args v hs us w ha
 unfold sq2 at hs
 split at hs
 case h_2=>cases hs
 split at hs
 case h_2=>cases hs
 rename_i r s h1 h2
 injection hs with hs;subst hs
 obtain ⟨u1,us1,r1,⟨u2,us2,r2,ha,rfl⟩,rfl⟩:=ha
 exact h r s _ w ⟨u1,_,va_rel h1 r1,⟨u2,_,va_rel h2 r2,ha,rfl⟩,rfl⟩
end
end Go.Proofs.YtjlcdlekmpjjnaaGreat
/- Contracts of fp and sigilref04 told over the field. -/
namespace Go.Proofs.YtjlcdlekmpjjnaaGreat
open Ex Num Rg
open Sh (R av rd mo en mo_en)
set_option maxRecDepth 100000
set_option maxHeartbeats 4000000
theorem adN (x y:Nat):addN x y=ad FP x y:=val_eq (addN_lt x y) (tf_addN x y)
theorem suN (x y:Nat):subN x y=su FP x y:=val_eq (subN_lt x y) (tf_subN x y)
theorem muN (x y:Nat):mulN x y=mu FP x y:=val_eq (mulN_lt x y) (tf_mulN x y)
theorem ngN (x:Nat):negN x=ng FP x:=val_eq (negN_lt x) (tf_negN x)
theorem tf_inv' (x:Nat):tf (invN x)=invF (tf x):=by
 have e:invN x=invN (x % pN):=by
  unfold invN
  rw [powN_eq,powN_eq]
  exact Nat.pow_mod x (pN-2) pN
 rw [e]
 unfold invF
 exact congrArg (fun y=>tf (invN y)) (show x % pN=(tf x).val from rfl)
theorem iv_FP (x:R FP):iv FP x=(invF (tf x)).val:=rfl
theorem ivN (x:Nat):invN x=iv FP x:=(val_eq (invN_lt x) (tf_inv' x)).trans (iv_FP x).symm
theorem redSp_num (x:Nat):redSp [num6 x]=some (num6 (x % pN)):=by kernel_rfl
theorem hred_ok (r:R FP):PureOk Tryz.prog 131 [va FP r] (va FP (re FP r)):=red_ok _ _ (redSp_num r)
noncomputable def SH1:List (FuncId×ASpec):=(131,pureSpec (sq1 FP fun r=>va FP (re FP r)))::(85,pureSpec (sq2 FP FP fun r s=>va FP (ad FP r s)))::(133,pureSpec (sq2 FP FP fun r s=>va FP (su FP r s)))::(87,pureSpec (sq1 FP fun r=>va FP (ng FP r)))::(86,pureSpec (sq2 FP FP fun r s=>va FP (mu FP r s)))::(134,pureSpec (sq1 FP fun r=>va FP (iv FP r)))::SIe
theorem SH1ok:SpecsOk Tryz.prog SH1:=⟨pureSpec_ok Tryz.func131 (by kernel_rfl) (by kernel_rfl) (sq1_ok hred_ok),pureSpec_ok Tryz.func85 (by kernel_rfl) (by kernel_rfl) (sq2_ok fun r s=>by rw [← adN];exact add_ok r s),pureSpec_ok Tryz.func133 (by kernel_rfl) (by kernel_rfl) (sq2_ok fun r s=>by rw [← suN];exact sub_ok r s),pureSpec_ok Tryz.func87 (by kernel_rfl) (by kernel_rfl) (sq1_ok fun r=>by rw [← ngN];exact neg_ok r),pureSpec_ok Tryz.func86 (by kernel_rfl) (by kernel_rfl) (sq2_ok fun r s=>by rw [← muN];exact mul_ok r s),pureSpec_ok Tryz.func134 (by kernel_rfl) (by kernel_rfl) (sq1_ok fun r=>by rw [← ivN];exact inv_ok r),SIeok⟩
end Go.Proofs.YtjlcdlekmpjjnaaGreat
/- The fields over that of p: with u, with v, with w; the twisted curve. -/
namespace Go.Proofs.YtjlcdlekmpjjnaaGreat
open Ex Num Rg
open Sh (R av rd mo en mo_en)
set_option maxRecDepth 100000
set_option maxHeartbeats 4000000
theorem no_pw {k m:Nat} (hk:(pN-1) / k*k=pN-1) (hlt:Nat.blt ((pN-1) / k) RR=true) (h0:0<m) (hc:Nat.beq (pmod pN m 384 ((pN-1) / k)) 1=false) (hk0:0<k) (x:Nat):x^k % pN≠m:=by
 intro h
 have hnd:¬ pN∣x:=fun hd=>by
  have:x^k % pN=0:=by
   obtain ⟨c,hcc⟩:=hd
   obtain ⟨j,rfl⟩:∃ j,k=j+1:=⟨k-1,by omega⟩
   rw [hcc,Nat.pow_succ,Nat.mul_comm,Nat.mul_assoc,Nat.mul_mod_right]
  omega
 have hf:=fermat pN_prime hnd
 rw [← hk,Nat.mul_comm,Nat.pow_mul,Nat.pow_mod,h,← pmod_eq pN 384 m ((pN-1) / k) (by rw [pow_fuel];exact nblt.1 hlt)] at hf
 rw [hf] at hc
 cases hc
theorem tf_lit {a b:Nat} (h:Nat.beq (a % pN) (b % pN)=true):tf a=tf b:=tf_eq.2 (nbeq.1 h)
theorem sq_ne {m:Nat} (h:∀ x:Nat,x^2 % pN≠m) (hm:m<pN) (x:FP):x*x≠tf m:=fun e=>by
 refine h x.val ?_
 have:tf (x.val^2)=tf m:=by rw [Nat.pow_two,tf_mul,tf_val];exact e
 rw [tf_eq,Nat.mod_eq_of_lt hm] at this
 exact this
theorem cube_ne {m:Nat} (h:∀ x:Nat,x^3 % pN≠m) (hm:m<pN) (x:FP):x*x*x≠tf m:=fun e=>by
 refine h x.val ?_
 have:tf (x.val^3)=tf m:=by rw [Nat.pow_succ,Nat.pow_two,tf_mul,tf_mul,tf_val];exact e
 rw [tf_eq,Nat.mod_eq_of_lt hm] at this
 exact this
theorem k2:(pN-1) / 2*2=pN-1:=by kernel_rfl
theorem k2_lt:Nat.blt ((pN-1) / 2) RR=true:=by kernel_rfl
theorem m1_lt:Nat.blt (pN-1) pN=true:=by kernel_rfl
theorem m1_pos:Nat.blt 0 (pN-1)=true:=by kernel_rfl
theorem tf_m1:tf (pN-1)=-1:=by
 have h:tf (pN-1)+1=0:=by rw [← tf_one,← tf_add,tf_ne_zero];kernel_rfl
 exact neg_unique (by rw [Rg.add_comm];exact h)
theorem nsq_m1 (x:FP):x*x≠-1:=by
 rw [← tf_m1]
 exact sq_ne (no_pw k2 k2_lt (nblt.1 m1_pos) (by kernel_rfl) (by decide)) (nblt.1 m1_lt) x
theorem nsq_2 (x:FP):x*x≠tf 2:=sq_ne (no_pw k2 k2_lt (by decide) (by kernel_rfl) (by decide)) (by decide) x
theorem ncb_2 (x:FP):x*x*x≠tf 2:=cube_ne (no_pw p3 p3_lt (by decide) (by kernel_rfl) (by decide)) (by decide) x
theorem ncb_32 (x:FP):x*x*x≠tf 32:=cube_ne (no_pw p3 p3_lt (by decide) (by kernel_rfl) (by decide)) (by decide) x
abbrev FP2:Type:=Qx (-1:FP)
noncomputable instance fdFP2:FD FP2:=fdQ nsq_m1
noncomputable def xi:FP2:=⟨1,1⟩
theorem nrm_xi:(xi:FP2).nrm=tf 2:=by
 show (1:FP)*1 - -1*(1*1)=tf 2
 rw [show tf 2=(1:FP)+1 from by rw [← tf_one,← tf_add]]
 exact ring (F:=FP) [] (by kernel_rfl)
theorem ncb_xi (x:FP2):x*x*x≠xi:=fun e=>ncb_2 x.nrm (((Qx.nrm_mul (x*x) x).trans (by rw [Qx.nrm_mul])).symm.trans ((congrArg Qx.nrm e).trans nrm_xi))
theorem nsq_xi (x:FP2):x*x≠xi:=fun e=>nsq_2 x.nrm ((Qx.nrm_mul x x).symm.trans ((congrArg Qx.nrm e).trans nrm_xi))
abbrev FP6:Type:=Kx xi
noncomputable instance fdFP6:FD FP6:=fdK ncb_xi
noncomputable def vv:FP6:=⟨0,1,0⟩
theorem nrm_vv:(vv:FP6).nrm=xi:=by
 show (0:FP2)*(0*0-xi*(1*0))+xi*(0*(xi*(0*0)-0*1)+1*(1*1-0*0))=xi
 exact ring [xi] (by kernel_rfl)
theorem nsq_vv (x:FP6):x*x≠vv:=fun e=>nsq_xi x.nrm ((Kx.nrm_mul x x).symm.trans ((congrArg Kx.nrm e).trans nrm_vv))
abbrev FP12:Type:=Qx vv
noncomputable instance fdFP12:FD FP12:=fdQ nsq_vv
noncomputable def four2:FP2:=⟨four,four⟩
theorem tf_32:four*four - -1*(four*four)=tf 32:=by
 have e:four*four=tf 16:=(tf_mul 4 4).symm
 have e2:tf 16+tf 16=tf 32:=(tf_add 16 16).symm
 rw [e,← e2]
 exact ring [tf 16] (by kernel_rfl)
noncomputable def C2:Cv FP2 where
 b:=four2
 two:=fun h=>C1.two (by
  have:=congrArg Qx.a h
  exact this)
 no2:=fun x y h hy=>by
  subst hy
  have h1:x*x*x=-four2:=neg_unique (by rw [Rg.add_comm,← h];exact mul_zero 0)
  refine ncb_32 x.nrm ?_
  rw [← Qx.nrm_mul,← Qx.nrm_mul,h1,← tf_32]
  show -four*-four - -1*(-four*-four)=_
  exact ring [four] (by kernel_rfl)
end Go.Proofs.YtjlcdlekmpjjnaaGreat
/- Square roots of numbers, and of numbers with u. -/
namespace Go.Proofs.YtjlcdlekmpjjnaaGreat
open Ex Num Rg
open Sh (R av rd mo en mo_en)
set_option maxRecDepth 100000
set_option maxHeartbeats 4000000
noncomputable def isF (x:FP):Bool:=isSqN x.val
noncomputable def rtF (x:FP):FP:=tf (rootN x.val)
def sgF (x:FP):Bool:=Nat.beq (x.val % 2) 1
theorem rtF_sq {x:FP} (h:isF x=true):rtF x*rtF x=x:=by
 obtain ⟨h1,_,_⟩:=rootN_spec h
 unfold rtF
 rw [← tf_mulN,h1,tf_mod,tf_val]
theorem isF_of {x y:FP} (h:y*y=x):isF x=true:=by
 unfold isF
 by_cases h0:x.val % pN=0
 ·exact isSqN_zero h0
 ·refine (isSqN_iff h0).2 ?_
  have hx:x.val=y.val*y.val % pN:=by rw [← h];rfl
  unfold chiN
  rw [hx,← Nat.pow_mod,← Nat.pow_two,← Nat.pow_mul,Nat.mul_comm 2,k2]
  refine fermat pN_prime fun hd=>h0 ?_
  obtain ⟨c,hc⟩:=hd
  rw [hx,hc,Nat.mod_mod,Nat.mul_assoc,Nat.mul_mod_right]
theorem sq_pm {x y:FP} (h:x*x=y*y):x=y∨x=-y:=by
 have e:(x-y)*(x+y)=0:=by
  have:(x-y)*(x+y)=x*x-y*y:=ring [x,y] (by kernel_rfl)
  rw [this,h,sub_self]
 rcases zero_or e with e | e
 ·exact .inl (sub_zero_iff.1 e)
 ·exact .inr (neg_unique (by rw [Rg.add_comm];exact e))
theorem val_neg {x:FP} (h:x≠0):(-x).val=pN-x.val:=by
 have hx:x.val≠0:=fun e=>h (val_zero.1 e)
 have h1:tf (pN-x.val)=-x:=by
  have:=tf_negN x.val
  rw [tf_val] at this
  unfold negN at this
  rw [Nat.mod_eq_of_lt x.isLt,tf_mod] at this
  exact this
 rw [← h1,val_tf (by have:=x.isLt;omega)]
theorem sgF_neg {x:FP} (h:x≠0):sgF (-x)=!sgF x:=by
 have hx:x.val≠0:=fun e=>h (val_zero.1 e)
 unfold sgF
 rw [val_neg h]
 have:=x.isLt
 have ho:=pN_odd
 have:(pN-x.val) % 2=(1+x.val % 2) % 2:=by omega
 rw [this]
 rcases Nat.mod_two_eq_zero_or_one x.val with e | e<;>rw [e]<;>rfl
noncomputable def sg2 (a:FP2):Bool:=if a.a=0 then sgF a.b else sgF a.a
theorem neg0 {x:FP}:-x=0↔x=0:=⟨fun h=>by rw [← neg_neg x,h,neg_zero],fun h=>by rw [h,neg_zero]⟩
theorem sg2_neg {a:FP2} (h:a≠0):sg2 (-a)=!sg2 a:=by
 unfold sg2
 show (if -a.a=0 then sgF (-a.b) else sgF (-a.a))=_
 by_cases h1:a.a=0
 ·rw [if_pos (neg0.2 h1),if_pos h1]
  exact sgF_neg fun e=>h (Qx.ext h1 e)
 ·rw [if_neg fun e=>h1 (neg0.1 e),if_neg h1]
  exact sgF_neg h1
theorem sq_pm2 {x y:FP2} (h:x*x=y*y):x=y∨x=-y:=by
 have e:(x-y)*(x+y)=0:=by
  have:(x-y)*(x+y)=x*x-y*y:=ring [x,y] (by kernel_rfl)
  rw [this,h,sub_self]
 rcases zero_or e with e | e
 ·exact .inl (sub_zero_iff.1 e)
 ·exact .inr (neg_unique (by rw [Rg.add_comm];exact e))
noncomputable def is2 (a:FP2):Bool:=@decide (∃ s:FP2,s*s=a) (Classical.propDecidable _)
theorem is2_iff {a:FP2}:is2 a=true↔∃ s:FP2,s*s=a:=@decide_eq_true_iff _ (Classical.propDecidable _)
theorem rt2_ex (a:FP2):∃ x:FP2,(is2 a=true→x*x=a∧sg2 x=false)∧(is2 a=false→x=0):=by
 cases h:is2 a with
 | false=>exact ⟨0,(fun e=>by cases e),fun _=>rfl⟩
 | true =>
  obtain ⟨s,hs⟩:=is2_iff.1 h
  cases hg:sg2 s with
  | false=>exact ⟨s,fun _=>⟨hs,hg⟩,(fun e=>by cases e)⟩
  | true =>
   refine ⟨-s,fun _=>⟨?_,?_⟩,(fun e=>by cases e)⟩
   ·rw [← hs];exact ring [s] (by kernel_rfl)
   ·rw [sg2_neg,hg];rfl
    intro e
    rw [e] at hg
    have:sg2 0=false:=if_pos rfl
    rw [this] at hg;cases hg
noncomputable def rt2 (a:FP2):FP2:=Classical.choose (rt2_ex a)
theorem rt2_sq {a:FP2} (h:is2 a=true):rt2 a*rt2 a=a:=((Classical.choose_spec (rt2_ex a)).1 h).1
theorem rt2_sg {a:FP2} (h:is2 a=true):sg2 (rt2 a)=false:=((Classical.choose_spec (rt2_ex a)).1 h).2
theorem rt2_no {a:FP2} (h:is2 a=false):rt2 a=0:=(Classical.choose_spec (rt2_ex a)).2 h
theorem rt2_of {a s:FP2} (h:s*s=a) (hg:sg2 s=false):rt2 a=s:=by
 have hi:=is2_iff.2 ⟨s,h⟩
 rcases sq_pm2 ((rt2_sq hi).trans h.symm) with e | e
 ·exact e
 ·by_cases h0:s=0
  ·rw [e,h0,neg_zero]
  ·have:=rt2_sg hi
   rw [e,sg2_neg h0,hg] at this
   cases this
def uu:FP2:=⟨0,1⟩
end Go.Proofs.YtjlcdlekmpjjnaaGreat
/- Square roots of numbers with u: what the two ways of reckoning them find. -/
namespace Go.Proofs.YtjlcdlekmpjjnaaGreat
open Ex Num Rg
open Sh (R av rd mo en mo_en)
set_option maxRecDepth 100000
set_option maxHeartbeats 4000000
theorem sg2_zero:sg2 0=false:=if_pos rfl
theorem is2_eq {a s:FP2} (h:s*s=a) (hg:sg2 s=false):s=rt2 a∧is2 a=true:=⟨(rt2_of h hg).symm,is2_iff.2 ⟨s,h⟩⟩
noncomputable def ev2 (x:FP2):FP2:=if sg2 x=true then -x else x
theorem ev2_sg (x:FP2):sg2 (ev2 x)=false:=by
 unfold ev2
 by_cases h:sg2 x=true
 ·rw [if_pos h,sg2_neg (fun e=>by rw [e,sg2_zero] at h;cases h),h];rfl
 ·rw [if_neg h];cases hq:sg2 x with | false=>rfl | true=>exact absurd hq h
theorem ev2_sq (x:FP2):ev2 x*ev2 x=x*x:=by
 unfold ev2
 split
 ·exact ring [x] (by kernel_rfl)
 ·rfl
noncomputable def tryX (h:FP) (a:FP2) (n:FP):FP:=rtF ((a.a+n)*h)
noncomputable def tryY (h:FP) (a:FP2) (n:FP):FP:=if tryX h a n=0 then rtF (-a.a) else a.b*h*FD.inv (tryX h a n)
noncomputable def tryO (h:FP) (a:FP2) (n:FP):FP2:=ev2 ⟨tryX h a n,tryY h a n⟩
noncomputable def tryI (h:FP) (a:FP2) (n:FP):Bool:=(if tryX h a n=0 then isF (-a.a) else isF ((a.a+n)*h))&&decide (tryO h a n*tryO h a n=a)
theorem try_sound {h:FP} {a:FP2} {n:FP} (ht:tryI h a n=true):tryO h a n=rt2 a∧is2 a=true:=by
 unfold tryI at ht
 exact is2_eq (of_decide_eq_true (Bool.and_eq_true_iff.1 ht).2) (ev2_sg _)
theorem sqF_zero {x:FP} (h:x*x=0):x=0:=(zero_or h).elim id id
theorem try_complete {h:FP} (hh:h+h=1) {a s:FP2} (hs:s*s=a) {n:FP} (hn:n=s.a*s.a+s.b*s.b):tryI h a n=true:=by
 have ea:a.a=s.a*s.a-s.b*s.b:=by rw [← hs];exact ring [s.a,s.b] (a:=s.a*s.a+-1*(s.b*s.b)) (by kernel_rfl)
 have eb:a.b=s.a*s.b+s.b*s.a:=by rw [← hs];rfl
 have h1:(a.a+n)*h=s.a*s.a:=by
  rw [ea,hn]
  exact (ring [s.a,s.b,h] (a:=(s.a*s.a-s.b*s.b+(s.a*s.a+s.b*s.b))*h) (b:=s.a*s.a*(h+h)) (by kernel_rfl)).trans (by rw [hh,Rg.mul_one])
 have hi:isF ((a.a+n)*h)=true:=isF_of h1.symm
 have hx:=rtF_sq hi
 rw [h1] at hx
 have hX:tryX h a n*tryX h a n=s.a*s.a:=by unfold tryX;rw [h1];exact hx
 have fin:∀ y,(tryX h a n=s.a∧y=s.b)∨(tryX h a n=-s.a∧y=-s.b)∨(tryX h a n=s.a∧s.a=0∧y=-s.b)→(⟨tryX h a n,y⟩:FP2)*⟨tryX h a n,y⟩=a:=by
  intro y hy
  rcases hy with ⟨e1,e2⟩ | ⟨e1,e2⟩ | ⟨e1,e0,e2⟩
  ·rw [e1,e2];exact hs
  ·rw [e1,e2]
   have e:(⟨-s.a,-s.b⟩:FP2)=-s:=rfl
   rw [e,← hs];exact ring [s] (by kernel_rfl)
  ·rw [e1,e2]
   have e:(⟨s.a,-s.b⟩:FP2)=-s:=Qx.ext (by show s.a=-s.a;rw [e0,neg_zero]) rfl
   rw [e,← hs];exact ring [s] (by kernel_rfl)
 unfold tryI
 by_cases h0:tryX h a n=0
 ·have s0:s.a=0:=by
   rw [h0,mul_zero] at hX
   exact sqF_zero hX.symm
  have e2:s.b*s.b=-a.a:=by rw [ea,s0];exact ring [s.b] (by kernel_rfl)
  rw [if_pos h0,isF_of e2]
  refine Bool.and_eq_true_iff.2 ⟨rfl,decide_eq_true ?_⟩
  unfold tryO
  rw [ev2_sq]
  refine fin _ ?_
  unfold tryY
  rw [if_pos h0]
  rcases sq_pm ((rtF_sq (isF_of e2)).trans e2.symm) with e | e
  ·exact .inl ⟨by rw [h0,s0],e⟩
  ·exact .inr (.inr ⟨by rw [h0,s0],s0,e⟩)
 ·rw [if_neg h0,hi]
  refine Bool.and_eq_true_iff.2 ⟨rfl,decide_eq_true ?_⟩
  unfold tryO
  rw [ev2_sq]
  refine fin _ ?_
  have hy:tryY h a n=s.a*s.b*FD.inv (tryX h a n):=by
   unfold tryY
   rw [if_neg h0,eb]
   congr 1
   exact (ring [s.a,s.b,h] (a:=(s.a*s.b+s.b*s.a)*h) (b:=s.a*s.b*(h+h)) (by kernel_rfl)).trans (by rw [hh,Rg.mul_one])
  have hv:=FD.mul_inv (tryX h a n) h0
  rcases sq_pm hX with e | e
  ·refine .inl ⟨e,?_⟩
   rw [hy]
   calc s.a*s.b*FD.inv (tryX h a n)=s.b*(s.a*FD.inv (tryX h a n)):=ring [s.a,s.b,FD.inv (tryX h a n)] (by kernel_rfl)
    _=s.b:=by rw [← e,hv,Rg.mul_one]
  ·refine .inr (.inl ⟨e,?_⟩)
   rw [hy]
   calc s.a*s.b*FD.inv (tryX h a n)=-s.b*(-s.a*FD.inv (tryX h a n)):=ring [s.a,s.b,FD.inv (tryX h a n)] (by kernel_rfl)
    _=-s.b:=by rw [← e,hv,Rg.mul_one]
theorem nrm_sq {a s:FP2} (hs:s*s=a):(s.a*s.a+s.b*s.b)*(s.a*s.a+s.b*s.b)=a.a*a.a+a.b*a.b:=by
 rw [← hs]
 exact ring [s.a,s.b] (b:=(s.a*s.a+-1*(s.b*s.b))*(s.a*s.a+-1*(s.b*s.b))+(s.a*s.b+s.b*s.a)*(s.a*s.b+s.b*s.a)) (by kernel_rfl)
noncomputable def nrF (a:FP2):FP:=a.a*a.a+a.b*a.b
theorem prog_no {a:FP2} (h:isF (nrF a)=false):is2 a=false:=by
 cases hi:is2 a with
 | false=>rfl
 | true =>
  obtain ⟨s,hs⟩:=is2_iff.1 hi
  have:=isF_of (nrm_sq hs)
  unfold nrF at h
  rw [this] at h;cases h
theorem prog_fail {h:FP} (hh:h+h=1) {a:FP2} (hi:isF (nrF a)=true) (h1:tryI h a (rtF (nrF a))=false) (h2:tryI h a (-rtF (nrF a))=false):is2 a=false:=by
 cases hq:is2 a with
 | false=>rfl
 | true =>
  obtain ⟨s,hs⟩:=is2_iff.1 hq
  rcases sq_pm ((rtF_sq hi).trans (nrm_sq hs).symm) with e | e
  ·rw [try_complete hh hs e] at h1;cases h1
  ·rw [try_complete hh hs (n:=-rtF (nrF a)) (by rw [e];exact neg_neg _)] at h2;cases h2
theorem e4:(pN-3) / 4*4+3=pN:=by kernel_rfl
end Go.Proofs.YtjlcdlekmpjjnaaGreat
/- fp2 and sigilref07: the contracts. -/
namespace Go.Proofs.YtjlcdlekmpjjnaaGreat
open Ex Num Rg
open Sh (R av rd mo en mo_en)
set_option maxRecDepth 100000
set_option maxHeartbeats 4000000
def Qx.sc {F:Type} [CR F] {β:F} (x:Qx β) (k:F):Qx β:=⟨x.a*k,x.b*k⟩
noncomputable def cj (r:R FP2):R FP2:=en (Qx.conj (mo r:FP2))
noncomputable def sc (r:R FP2) (k:R FP):R FP2:=en (Qx.sc (mo r:FP2) (mo k))
noncomputable def mx (r:R FP2):R FP2:=en ((mo r:FP2)*xi)
def KH:List (TypeId×List (Option IntKind)):=(39,List.replicate 12 (some .u64))::(41,List.replicate 24 (some .u64)++[none])::(98,List.replicate 36 (some .u64))::KG
theorem KHok:KindsOk Tryz.prog KH:=⟨⟨by kernel_rfl,by kernel_rfl,by kernel_rfl⟩,⟨by kernel_rfl,by kernel_rfl,by kernel_rfl⟩,⟨by kernel_rfl,by kernel_rfl,by kernel_rfl⟩,KGok⟩
theorem e2mul (r s:R FP2):(su FP (mu FP r.1 s.1) (mu FP r.2 s.2),su FP (mu FP (ad FP r.1 r.2) (ad FP s.1 s.2)) (ad FP (mu FP r.1 s.1) (mu FP r.2 s.2)))=mu FP2 r s:=by
 refine Prod.ext ?_ ?_<;>simp only [su,mu,ad,mo_en]
 ·exact congrArg (en (α:=FP)) (ring [tf r.1,tf r.2,tf s.1,tf s.2] (a:=tf r.1*tf s.1-tf r.2*tf s.2) (b:=tf r.1*tf s.1+-1*(tf r.2*tf s.2)) (by kernel_rfl))
 ·exact congrArg (en (α:=FP)) (ring [tf r.1,tf r.2,tf s.1,tf s.2] (a:=(tf r.1+tf r.2)*(tf s.1+tf s.2)-(tf r.1*tf s.1+tf r.2*tf s.2)) (b:=tf r.1*tf s.2+tf r.2*tf s.1) (by kernel_rfl))
theorem nrm2 (x:FP2):x.nrm=x.a*x.a+x.b*x.b:=ring [x.a,x.b] (a:=x.a*x.a - -1*(x.b*x.b)) (by kernel_rfl)
theorem e2inv (r:R FP2):sc (cj r) (iv FP (ad FP (mu FP r.1 r.1) (mu FP r.2 r.2)))=iv FP2 r:=by
 simp only [sc,cj,iv,mu,ad,mo_en]
 have e:=nrm2 (mo r:FP2)
 show en (Qx.sc (Qx.conj (mo r:FP2)) (FD.inv ((mo r:FP2).a*(mo r:FP2).a+(mo r:FP2).b*(mo r:FP2).b)))=en (invQ (mo r:FP2))
 rw [← e];rfl
noncomputable abbrev oH1:Orc:=orc SH1 KH
theorem oH1ok:OrcOk Tryz.prog oH1:=orc_ok SH1ok KHok
section
variable (r s:R FP2) (k:R FP)
theorem f2red_run:pureRun Tryz.prog oH1 Tryz.f135 [va FP2 r] [] 300=some ([],va FP2 (re FP2 r)):=by kernel_rfl
theorem f2add_run:pureRun Tryz.prog oH1 Tryz.f89 [va FP2 r,va FP2 s] [] 300=some ([],va FP2 (ad FP2 r s)):=by kernel_rfl
theorem f2sub_run:pureRun Tryz.prog oH1 Tryz.f137 [va FP2 r,va FP2 s] [] 300=some ([],va FP2 (su FP2 r s)):=by kernel_rfl
theorem f2neg_run:pureRun Tryz.prog oH1 Tryz.f91 [va FP2 r] [] 300=some ([],va FP2 (ng FP2 r)):=by kernel_rfl
theorem f2cj_run:pureRun Tryz.prog oH1 Tryz.f216 [va FP2 r] [] 300=some ([],va FP2 (cj r)):=by kernel_rfl
theorem f2sc_run:pureRun Tryz.prog oH1 Tryz.f215 [va FP2 r,va FP k] [] 300=some ([],va FP2 (sc r k)):=by kernel_rfl
noncomputable abbrev oH1':Orc:=orc ((156,inlSpec Tryz.prog oH1 Tryz.f156 300)::SH1) KH
theorem oH1'ok:OrcOk Tryz.prog oH1':=orc_ok ⟨inl_ok oH1ok mixed Tryz.func156 (by kernel_rfl) (by kernel_rfl) 300,SH1ok⟩ KHok
theorem f2mul_run:pureRun Tryz.prog oH1' Tryz.f90 [va FP2 r,va FP2 s] [] 300=some ([],va FP2 (su FP (mu FP r.1 s.1) (mu FP r.2 s.2),su FP (mu FP (ad FP r.1 r.2) (ad FP s.1 s.2)) (ad FP (mu FP r.1 s.1) (mu FP r.2 s.2)))):=by kernel_rfl
end
noncomputable def SH2:List (FuncId×ASpec):=(135,pureSpec (sq1 FP2 fun r=>va FP2 (re FP2 r)))::(89,pureSpec (sq2 FP2 FP2 fun r s=>va FP2 (ad FP2 r s)))::(137,pureSpec (sq2 FP2 FP2 fun r s=>va FP2 (su FP2 r s)))::(91,pureSpec (sq1 FP2 fun r=>va FP2 (ng FP2 r)))::(216,pureSpec (sq1 FP2 fun r=>va FP2 (cj r)))::(215,pureSpec (sq2 FP2 FP fun r k=>va FP2 (sc r k)))::(90,pureSpec (sq2 FP2 FP2 fun r s=>va FP2 (mu FP2 r s)))::SH1
theorem SH2ok:SpecsOk Tryz.prog SH2:=⟨pureSpec_ok Tryz.func135 (by kernel_rfl) (by kernel_rfl) (sq1_ok fun r=>pure_ok oH1ok mixed Tryz.func135 (f2red_run r) trivial rfl),pureSpec_ok Tryz.func89 (by kernel_rfl) (by kernel_rfl) (sq2_ok fun r s=>pure_ok oH1ok mixed Tryz.func89 (f2add_run r s) trivial rfl),pureSpec_ok Tryz.func137 (by kernel_rfl) (by kernel_rfl) (sq2_ok fun r s=>pure_ok oH1ok mixed Tryz.func137 (f2sub_run r s) trivial rfl),pureSpec_ok Tryz.func91 (by kernel_rfl) (by kernel_rfl) (sq1_ok fun r=>pure_ok oH1ok mixed Tryz.func91 (f2neg_run r) trivial rfl),pureSpec_ok Tryz.func216 (by kernel_rfl) (by kernel_rfl) (sq1_ok fun r=>pure_ok oH1ok mixed Tryz.func216 (f2cj_run r) trivial rfl),pureSpec_ok Tryz.func215 (by kernel_rfl) (by kernel_rfl) (sq2_ok fun r s=>pure_ok oH1ok mixed Tryz.func215 (f2sc_run r s) trivial rfl),pureSpec_ok Tryz.func90 (by kernel_rfl) (by kernel_rfl) (sq2_ok fun r s=>by rw [← e2mul];exact pure_ok oH1'ok mixed Tryz.func90 (f2mul_run r s) trivial rfl),SH1ok⟩
noncomputable abbrev oH2:Orc:=orc SH2 KH
theorem oH2ok:OrcOk Tryz.prog oH2:=orc_ok SH2ok KHok
section
variable (r s:R FP2)
theorem f2inv_run:pureRun Tryz.prog oH2 Tryz.f138 [va FP2 r] [] 300=some ([],va FP2 (sc (cj r) (iv FP (ad FP (mu FP r.1 r.1) (mu FP r.2 r.2))))):=by kernel_rfl
end
noncomputable def SH3:List (FuncId×ASpec):=(138,pureSpec (sq1 FP2 fun r=>va FP2 (iv FP2 r)))::SH2
theorem SH3ok:SpecsOk Tryz.prog SH3:=⟨pureSpec_ok Tryz.func138 (by kernel_rfl) (by kernel_rfl) (sq1_ok fun r=>by rw [← e2inv];exact pure_ok oH2ok mixed Tryz.func138 (f2inv_run r) trivial rfl),SH2ok⟩
noncomputable abbrev oH3:Orc:=orc SH3 KH
theorem oH3ok:OrcOk Tryz.prog oH3:=orc_ok SH3ok KHok
end Go.Proofs.YtjlcdlekmpjjnaaGreat
/- g2: b, Base, Reduce, Neg, On, Add: the contracts. -/
namespace Go.Proofs.YtjlcdlekmpjjnaaGreat
open Ex Num Rg
open Sh (R av rd mo en mo_en)
set_option maxRecDepth 100000
set_option maxHeartbeats 4000000
abbrev P2:Type:=Pt FP2
def dq (x y:Nat):Bool:=decide (x=y)
def eqR (r s:R FP2):Bool:=dq r.1 s.1&&dq r.2 s.2
theorem dq_val (x y:FP):dq x.val y.val=decide (x=y):=by
 unfold dq
 by_cases h:x=y
 ·rw [decide_eq_true h,decide_eq_true (congrArg Fin.val h)]
 ·rw [decide_eq_false h,decide_eq_false fun e=>h (Fin.ext e)]
theorem eqR_en (x y:FP2):eqR (en x) (en y)=decide (x=y):=by
 show (dq x.a.val y.a.val&&dq x.b.val y.b.val)=_
 rw [dq_val,dq_val]
 by_cases h:x=y
 ·subst h;rw [decide_eq_true rfl,decide_eq_true rfl,decide_eq_true rfl];rfl
 ·rw [decide_eq_false h]
  by_cases h1:x.a=y.a
  ·rw [decide_eq_false fun h2=>h (Qx.ext h1 h2),Bool.and_false]
  ·rw [decide_eq_false h1,Bool.false_and]
def eqZ (r:R FP2):Bool:=dq r.1 0&&dq r.2 0
theorem eqZ_en (x:FP2):eqZ (en x)=decide (x=0):=eqR_en x 0
def G2bC:List Ch:=[.n .u64 4,.n .u64 0,.n .u64 0,.n .u64 0,.n .u64 0,.n .u64 0,.n .u64 4,.n .u64 0,.n .u64 0,.n .u64 0,.n .u64 0,.n .u64 0]
theorem g2b_run:pureRun Tryz.prog oH3 Tryz.f136 [] [] 100=some ([],.val true G2bC):=by kernel_rfl
def zero24 (i:Bool):List Ch:=List.replicate 24 (.n .u64 0)++[.b i]
def ev (α:Type) [Sh α] (x:AV):List AV→Option AV | []=>some x | _=>none
section
variable (r s:R P2)
theorem g2red_i:pureRun Tryz.prog oH3 Tryz.f74 [va P2 r] [true] 300=some ([(r.2.2,true)],.val true (zero24 true)):=by kernel_rfl
theorem g2red_p:pureRun Tryz.prog oH3 Tryz.f74 [va P2 r] [false] 300=some ([(r.2.2,false)],.val true (lcat (av (re FP2 r.1)) (lcat (av (re FP2 r.2.1)) [.b false]))):=by kernel_rfl
end
theorem g2red_ok (r:R P2):PureOk Tryz.prog 74 [va P2 r] (ve (mo r:P2)):=by
 have h1:=g2red_i r
 have h2:=g2red_p r
 obtain ⟨x,y,i⟩:=r
 cases i with
 | true=>exact pure_sh (α:=P2) (r:=(en (.inf:P2):R P2)) (pure_ok oH3ok mixed Tryz.func74 h1 ⟨rfl,trivial⟩ rfl) (by kernel_rfl)
 | false=>exact pure_sh (α:=P2) (r:=((re FP2 x,re FP2 y,false):R P2)) (pure_ok oH3ok mixed Tryz.func74 h2 ⟨rfl,trivial⟩ rfl) (by kernel_rfl)
noncomputable def SJ0:List (FuncId×ASpec):=(136,pureSpec (ev FP2 (ve four2)))::(74,pureSpec (sq1 P2 fun r=>ve (mo r:P2)))::SH3
theorem ev_ok {α:Type} [Sh α] {P:Program} {f:FuncId} {x:AV} (h:PureOk P f [] x):∀ args v,ev α x args=some v→PureOk P f args v:=by
 intro args v hs
 unfold ev at hs
 split at hs
 ·injection hs with hs;subst hs;exact h
 ·cases hs
theorem g2b_ok:PureOk Tryz.prog 136 [] (ve four2):=pure_sh (α:=FP2) (r:=(en four2:R FP2)) (pure_ok oH3ok mixed Tryz.func136 g2b_run trivial rfl) (by kernel_rfl)
theorem SJ0ok:SpecsOk Tryz.prog SJ0:=⟨pureSpec_ok Tryz.func136 (by kernel_rfl) (by kernel_rfl) (ev_ok g2b_ok),pureSpec_ok Tryz.func74 (by kernel_rfl) (by kernel_rfl) (sq1_ok g2red_ok),SH3ok⟩
noncomputable abbrev oJ0:Orc:=orc SJ0 KH
theorem oJ0ok:OrcOk Tryz.prog oJ0:=orc_ok SJ0ok KHok
noncomputable def rX (p:P2):R FP2:=(en p).1
noncomputable def rY (p:P2):R FP2:=(en p).2.1
noncomputable def cvN (x y:R FP2):Bool:=eqR (mu FP2 y y) (ad FP2 (mu FP2 (mu FP2 x x) x) (en four2))
noncomputable def on2 (p:P2):Bool:=match p with
 | .inf=>true
 | .pt x y=>decide (y*y=x*x*x+four2)
theorem on2_iff (p:P2):on2 p=true↔Rg.On C2.b p:=by
 cases p with
 | inf=>exact ⟨fun _=>trivial,fun _=>rfl⟩
 | pt a b=>exact decide_eq_true_iff
theorem cvN_eq (x y:R FP2):cvN x y=on2 (.pt (mo x) (mo y)):=by
 unfold cvN mu ad on2
 rw [eqR_en]
 simp only [mo_en]
section
variable (r:R P2)
theorem g2on_i:pureRun Tryz.prog oJ0 Tryz.f75 [va P2 r] [true] 300=some ([(r.2.2,true)],.val false [.b true]):=by kernel_rfl
theorem g2on_p:pureRun Tryz.prog oJ0 Tryz.f75 [va P2 r] [false] 300=some ([(r.2.2,false)],boolA (cvN r.1 r.2.1)):=by kernel_rfl
end
theorem g2on_ok (r:R P2):PureOk Tryz.prog 75 [va P2 r] (boolA (on2 (mo r))):=by
 have h1:=g2on_i r
 have h2:=g2on_p r
 obtain ⟨x,y,i⟩:=r
 cases i with
 | true=>exact pure_val (pure_ok oJ0ok mixed Tryz.func75 h1 ⟨rfl,trivial⟩ rfl) fun u hu=>bv_one rfl hu
 | false =>
  rw [show on2 (mo ((x,y,false):R P2))=on2 (.pt (mo x) (mo y)) from rfl,← cvN_eq]
  exact pure_ok oJ0ok mixed Tryz.func75 h2 ⟨rfl,trivial⟩ rfl
noncomputable def cl2 (px py qx qy:R FP2):R FP2:=mu FP2 (su FP2 qy py) (iv FP2 (su FP2 qx px))
noncomputable def tl2 (px py:R FP2):R FP2:=mu FP2 (ad FP2 (ad FP2 (mu FP2 px px) (mu FP2 px px)) (mu FP2 px px)) (iv FP2 (ad FP2 py py))
noncomputable def sX2 (l px qx:R FP2):R FP2:=su FP2 (su FP2 (mu FP2 l l) px) qx
noncomputable def sY2 (l px py x:R FP2):R FP2:=su FP2 (mu FP2 l (su FP2 px x)) py
noncomputable def sm2 (l:R FP2) (p q:P2):List Ch:=lcat (av (sX2 l (rX p) (rX q))) (lcat (av (sY2 l (rX p) (rY p) (sX2 l (rX p) (rX q)))) [.b false])
section
variable (r s:R P2)
noncomputable def adC (p q:P2) (d:Bool) (l:List (Bool×Bool)):List (Bool×Bool):=(pI1 p,false)::(pI1 q,false)::(!eqR (rX p) (rX q),d)::l
theorem g2add_1:pureRun Tryz.prog oJ0 Tryz.f107 [va P2 r,va P2 s] [true] 300=some ([(pI1 (mo r:P2),true)],ve (mo s:P2)):=by kernel_rfl
theorem g2add_2:pureRun Tryz.prog oJ0 Tryz.f107 [va P2 r,va P2 s] [false,true] 300=some ([(pI1 (mo r:P2),false),(pI1 (mo s:P2),true)],ve (mo r:P2)):=by kernel_rfl
theorem g2add_3:pureRun Tryz.prog oJ0 Tryz.f107 [va P2 r,va P2 s] [false,false,true] 300=some (adC (mo r) (mo s) true [],.val true (sm2 (cl2 (rX (mo r)) (rY (mo r)) (rX (mo s)) (rY (mo s))) (mo r) (mo s))):=by kernel_rfl
theorem g2add_4:pureRun Tryz.prog oJ0 Tryz.f107 [va P2 r,va P2 s] [false,false,false,true] 300=some (adC (mo r) (mo s) false [(!eqR (rY (mo r)) (rY (mo s)),true)],.val true (zero24 true)):=by kernel_rfl
theorem g2add_5:pureRun Tryz.prog oJ0 Tryz.f107 [va P2 r,va P2 s] [false,false,false,false,true] 300=some (adC (mo r) (mo s) false [(!eqR (rY (mo r)) (rY (mo s)),false),(eqZ (rY (mo r)),true)],.val true (zero24 true)):=by kernel_rfl
theorem g2add_6:pureRun Tryz.prog oJ0 Tryz.f107 [va P2 r,va P2 s] [false,false,false,false,false] 300=some (adC (mo r) (mo s) false [(!eqR (rY (mo r)) (rY (mo s)),false),(eqZ (rY (mo r)),false)],.val true (sm2 (tl2 (rX (mo r)) (rY (mo r))) (mo r) (mo s))):=by kernel_rfl
end
theorem rd_pt (x y:R FP2):(rd (lcat (av x) (lcat (av y) [.b false])):Option (R P2))=some ((x,y,false):R P2):=by kernel_rfl
theorem sm2_en (a b c d L:FP2):rd (sm2 (en L) (.pt a b) (.pt c d))=some (en (sumAt a b c L):R P2):=by
 have e:(en (sumAt a b c L):R P2)=(sX2 (en L) (en a) (en c),sY2 (en L) (en a) (en b) (sX2 (en L) (en a) (en c)),false):=by
  unfold sX2 sY2 su mu
  simp only [mo_en]
  rfl
 rw [e]
 exact rd_pt _ _
theorem cl2_en (a b c d:FP2):cl2 (en a) (en b) (en c) (en d)=en ((d-b)*FD.inv (c-a)):=by unfold cl2 mu su iv;simp only [mo_en]
theorem tl2_en (a b:FP2):tl2 (en a) (en b)=en ((a*a+a*a+a*a)*FD.inv (b+b)):=by unfold tl2 mu ad iv;simp only [mo_en]
theorem g2add_ok (r s:R P2):PureOk Tryz.prog 107 [va P2 r,va P2 s] (ve (Rg.add (mo r:P2) (mo s))):=by
 have r1:=g2add_1 r s
 have r2:=g2add_2 r s
 have r3:=g2add_3 r s
 have r4:=g2add_4 r s
 have r5:=g2add_5 r s
 have r6:=g2add_6 r s
 generalize (mo r:P2)=p at *
 generalize (mo s:P2)=q at *
 have zz:rd (zero24 true)=some (en (.inf:P2):R P2):=by kernel_rfl
 cases p with
 | inf=>exact pure_ok oJ0ok mixed Tryz.func107 r1 ⟨rfl,trivial⟩ rfl
 | pt a b=>cases q with
  | inf=>exact pure_ok oJ0ok mixed Tryz.func107 r2 ⟨rfl,rfl,trivial⟩ rfl
  | pt c d =>
   have eX:eqR (rX (.pt a b)) (rX (.pt c d))=decide (a=c):=eqR_en a c
   have eY:eqR (rY (.pt a b)) (rY (.pt c d))=decide (b=d):=eqR_en b d
   have eZ:eqZ (rY (.pt a b))=decide (b=0):=eqZ_en b
   rw [add_pt]
   by_cases hx:a=c
   ·rw [if_pos hx]
    by_cases hy:b=d
    ·by_cases h0:b=0
     ·rw [if_neg (fun h=>h.2 h0)]
      exact pure_sh (pure_ok oJ0ok mixed Tryz.func107 r5 ⟨rfl,rfl,by rw [eX,decide_eq_true hx];rfl,by rw [eY,decide_eq_true hy];rfl,by rw [eZ,decide_eq_true h0],trivial⟩ rfl) zz
     ·rw [if_pos ⟨hy,h0⟩]
      rw [show tl2 (rX (.pt a b)) (rY (.pt a b))=_ from tl2_en a b] at r6
      exact pure_sh (pure_ok oJ0ok mixed Tryz.func107 r6 ⟨rfl,rfl,by rw [eX,decide_eq_true hx];rfl,by rw [eY,decide_eq_true hy];rfl,by rw [eZ,decide_eq_false h0],trivial⟩ rfl) (sm2_en a b c d _)
    ·rw [if_neg (fun h=>hy h.1)]
     exact pure_sh (pure_ok oJ0ok mixed Tryz.func107 r4 ⟨rfl,rfl,by rw [eX,decide_eq_true hx];rfl,by rw [eY,decide_eq_false hy];rfl,trivial⟩ rfl) zz
   ·rw [if_neg hx]
    rw [show cl2 (rX (.pt a b)) (rY (.pt a b)) (rX (.pt c d)) (rY (.pt c d))=_ from cl2_en a b c d] at r3
    exact pure_sh (pure_ok oJ0ok mixed Tryz.func107 r3 ⟨rfl,rfl,by rw [eX,decide_eq_false hx];rfl,trivial⟩ rfl) (sm2_en a b c d _)
noncomputable def SJ1:List (FuncId×ASpec):=(75,pureSpec (sq1 P2 fun r=>boolA (on2 (mo r))))::(107,pureSpec (sq2 P2 P2 fun r s=>ve (Rg.add (mo r:P2) (mo s))))::SJ0
theorem SJ1ok:SpecsOk Tryz.prog SJ1:=⟨pureSpec_ok Tryz.func75 (by kernel_rfl) (by kernel_rfl) (sq1_ok g2on_ok),pureSpec_ok Tryz.func107 (by kernel_rfl) (by kernel_rfl) (sq2_ok g2add_ok),SJ0ok⟩
end Go.Proofs.YtjlcdlekmpjjnaaGreat
/- g2: points as fractions: the contracts. -/
namespace Go.Proofs.YtjlcdlekmpjjnaaGreat
open Ex Num Rg
open Sh (R av rd mo en mo_en)
set_option maxRecDepth 100000
set_option maxHeartbeats 4000000
abbrev J2:Type:=J FP2
noncomputable abbrev oJ1:Orc:=orc SJ1 KH
theorem oJ1ok:OrcOk Tryz.prog oJ1:=orc_ok SJ1ok KHok
def lq (x y:Nat):Bool:=decide (x<y)
def redB (r:R FP2):Bool:=lq r.1 pN&&lq r.2 pN
theorem red_en {r:R FP2} (h:redB r=true):en (mo r:FP2)=r:=by
 obtain ⟨h1,h2⟩:=Bool.and_eq_true_iff.1 h
 exact Prod.ext (val_tf (of_decide_eq_true h1)) (val_tf (of_decide_eq_true h2))
theorem redB_en (x:FP2):redB (en x)=true:=Bool.and_eq_true_iff.2 ⟨decide_eq_true x.a.isLt,decide_eq_true x.b.isLt⟩
noncomputable def qE (x:R FP2):R FP2:=ad FP2 (ad FP2 (mu FP2 x x) (mu FP2 x x)) (mu FP2 x x)
noncomputable def qD (x y:R FP2):R FP2:=ad FP2 (ad FP2 (mu FP2 x (mu FP2 y y)) (mu FP2 x (mu FP2 y y))) (ad FP2 (mu FP2 x (mu FP2 y y)) (mu FP2 x (mu FP2 y y)))
noncomputable def qC2 (y:R FP2):R FP2:=ad FP2 (mu FP2 (mu FP2 y y) (mu FP2 y y)) (mu FP2 (mu FP2 y y) (mu FP2 y y))
noncomputable def qC4 (y:R FP2):R FP2:=ad FP2 (qC2 y) (qC2 y)
noncomputable def qC8 (y:R FP2):R FP2:=ad FP2 (qC4 y) (qC4 y)
noncomputable def qX (x y:R FP2):R FP2:=su FP2 (mu FP2 (qE x) (qE x)) (ad FP2 (qD x y) (qD x y))
noncomputable def qY (x y:R FP2):R FP2:=su FP2 (mu FP2 (qE x) (su FP2 (qD x y) (qX x y))) (qC8 y)
noncomputable def qT (r:R J2):R J2:=(qX r.1 r.2.1,qY r.1 r.2.1,ad FP2 (mu FP2 r.2.1 r.2.2) (mu FP2 r.2.1 r.2.2))
theorem tw2_run (r:R J2):pureRun Tryz.prog oJ1 Tryz.f76 [va J2 r] [] 500=some ([],va J2 (qT r)):=by kernel_rfl
theorem qT_en (r:R J2):qT r=en (twJ (mo r:J2)):=by
 unfold qT qY qX qC8 qC4 qC2 qD qE su mu ad
 simp only [mo_en]
 rfl
theorem tw2_ok (r:R J2):PureOk Tryz.prog 76 [va J2 r] (ve (twJ (mo r:J2))):=by
 unfold ve
 rw [← qT_en]
 exact pure_ok oJ1ok mixed Tryz.func76 (tw2_run r) trivial rfl
noncomputable def SJ2:List (FuncId×ASpec):=(76,pureSpec (sq1 J2 fun r=>ve (twJ (mo r:J2))))::SJ1
theorem SJ2ok:SpecsOk Tryz.prog SJ2:=⟨pureSpec_ok Tryz.func76 (by kernel_rfl) (by kernel_rfl) (sq1_ok tw2_ok),SJ1ok⟩
noncomputable abbrev oJ2:Orc:=orc SJ2 KH
theorem oJ2ok:OrcOk Tryz.prog oJ2:=orc_ok SJ2ok KHok
noncomputable def qH (x z a:R FP2):R FP2:=su FP2 (mu FP2 a (mu FP2 z z)) x
noncomputable def qR (y z b:R FP2):R FP2:=su FP2 (mu FP2 b (mu FP2 (mu FP2 z z) z)) y
noncomputable def qPX (x h r:R FP2):R FP2:=su FP2 (su FP2 (mu FP2 r r) (mu FP2 (mu FP2 h h) h)) (ad FP2 (mu FP2 x (mu FP2 h h)) (mu FP2 x (mu FP2 h h)))
noncomputable def qPY (x y h r:R FP2):R FP2:=su FP2 (mu FP2 r (su FP2 (mu FP2 x (mu FP2 h h)) (qPX x h r))) (mu FP2 y (mu FP2 (mu FP2 h h) h))
section
variable (p:R J2) (q:R P2)
def zero36:List Ch:=List.replicate 36 (.n .u64 0)
theorem pl2_1:pureRun Tryz.prog oJ2 Tryz.f77 [va J2 p,va P2 q] [true] 500=some ([(eqZ p.2.2,true)],.val true (lcat (av q.1) (lcat (av q.2.1) (.n .u64 1::List.replicate 11 (.n .u64 0))))):=by kernel_rfl
theorem pl2_2:pureRun Tryz.prog oJ2 Tryz.f77 [va J2 p,va P2 q] [false,true,true] 500=some ([(eqZ p.2.2,false),(eqZ (qH p.1 p.2.2 q.1),true),(eqZ (qR p.2.1 p.2.2 q.2.1),true)],ve (twJ (mo p:J2))):=by kernel_rfl
theorem pl2_3:pureRun Tryz.prog oJ2 Tryz.f77 [va J2 p,va P2 q] [false,true,false,true] 500=some ([(eqZ p.2.2,false),(eqZ (qH p.1 p.2.2 q.1),true),(eqZ (qR p.2.1 p.2.2 q.2.1),false),(eqZ (qH p.1 p.2.2 q.1),true)],.val true zero36):=by kernel_rfl
theorem pl2_4:pureRun Tryz.prog oJ2 Tryz.f77 [va J2 p,va P2 q] [false,false,false] 500=some ([(eqZ p.2.2,false),(eqZ (qH p.1 p.2.2 q.1),false),(eqZ (qH p.1 p.2.2 q.1),false)],
 va J2 (qPX p.1 (qH p.1 p.2.2 q.1) (qR p.2.1 p.2.2 q.2.1),qPY p.1 p.2.1 (qH p.1 p.2.2 q.1) (qR p.2.1 p.2.2 q.2.1),mu FP2 p.2.2 (qH p.1 p.2.2 q.1))):=by kernel_rfl
end
theorem rd_j1 (x y:R FP2):(rd (lcat (av x) (lcat (av y) (.n .u64 1::List.replicate 11 (.n .u64 0)))):Option (R J2))=some ((x,y,en (1:FP2)):R J2):=by kernel_rfl
theorem pl2_ok {p:R J2} {q:R P2} (hz:redB p.2.2=true) (hx:redB q.1=true) (hy:redB q.2.1=true):PureOk Tryz.prog 77 [va J2 p,va P2 q] (ve (plJ (mo p:J2) (mo q.1) (mo q.2.1))):=by
 have ez:eqZ p.2.2=decide ((mo p:J2).z=0):=by
  conv=>lhs;rw [← red_en hz]
  exact eqZ_en _
 have eh:qH p.1 p.2.2 q.1=en (pH (mo p:J2) (mo q.1)):=by unfold qH su mu;simp only [mo_en];rfl
 have er:qR p.2.1 p.2.2 q.2.1=en (pR (mo p:J2) (mo q.2.1)):=by unfold qR su mu;simp only [mo_en];rfl
 have zh:eqZ (qH p.1 p.2.2 q.1)=decide (pH (mo p:J2) (mo q.1)=0):=by rw [eh];exact eqZ_en _
 have zr:eqZ (qR p.2.1 p.2.2 q.2.1)=decide (pR (mo p:J2) (mo q.2.1)=0):=by rw [er];exact eqZ_en _
 have r1:=pl2_1 p q
 have r2:=pl2_2 p q
 have r3:=pl2_3 p q
 have r4:=pl2_4 p q
 rw [zh,ez] at r2
 rw [zh,ez,zr] at r3
 rw [zr] at r2
 rw [zh,ez,eh,er] at r4
 rw [ez] at r1
 unfold plJ
 by_cases h0:(mo p:J2).z=0
 ·rw [if_pos h0]
  refine pure_sh (α:=J2) (r:=(en (⟨mo q.1,mo q.2.1,1⟩:J2):R J2)) (pure_ok oJ2ok mixed Tryz.func77 r1 ⟨decide_eq_true h0,trivial⟩ rfl) ?_
  have e:(en (⟨mo q.1,mo q.2.1,1⟩:J2):R J2)=(q.1,q.2.1,en (1:FP2)):=by
   show ((en (mo q.1:FP2),en (mo q.2.1:FP2),en (1:FP2)):R J2)=_
   rw [red_en hx,red_en hy]
  rw [e]
  exact rd_j1 _ _
 ·rw [if_neg h0]
  by_cases hh:pH (mo p:J2) (mo q.1)=0
  ·rw [if_pos hh]
   by_cases hr:pR (mo p:J2) (mo q.2.1)=0
   ·rw [if_pos hr]
    exact pure_ok oJ2ok mixed Tryz.func77 r2 ⟨decide_eq_false h0,decide_eq_true hh,decide_eq_true hr,trivial⟩ rfl
   ·rw [if_neg hr]
    exact pure_sh (α:=J2) (r:=(en (⟨0,0,0⟩:J2):R J2)) (pure_ok oJ2ok mixed Tryz.func77 r3 ⟨decide_eq_false h0,decide_eq_true hh,decide_eq_false hr,decide_eq_true hh,trivial⟩ rfl) (by kernel_rfl)
  ·rw [if_neg hh]
   have e:((qPX p.1 (en (pH (mo p:J2) (mo q.1))) (en (pR (mo p:J2) (mo q.2.1))),qPY p.1 p.2.1 (en (pH (mo p:J2) (mo q.1))) (en (pR (mo p:J2) (mo q.2.1))),mu FP2 p.2.2 (en (pH (mo p:J2) (mo q.1)))):R J2) =
     en (⟨pX (mo p:J2).x (pH (mo p:J2) (mo q.1)) (pR (mo p:J2) (mo q.2.1)),pY (mo p:J2).x (mo p:J2).y (pH (mo p:J2) (mo q.1)) (pR (mo p:J2) (mo q.2.1)),(mo p:J2).z*pH (mo p:J2) (mo q.1)⟩:J2):=by
    unfold qPY qPX su mu ad
    simp only [mo_en]
    rfl
   rw [e] at r4
   exact pure_ok oJ2ok mixed Tryz.func77 r4 ⟨decide_eq_false h0,decide_eq_false hh,decide_eq_false hh,trivial⟩ rfl
noncomputable def pl2Sp:List AV→Option (List (Bool×Bool)×AV)
 | [.val true a,.val true b]=>match (rd a:Option (R J2)),(rd b:Option (R P2)) with
  | some p,some q=>some ([(redB p.2.2,true),(redB q.1,true),(redB q.2.1,true)],ve (plJ (mo p:J2) (mo q.1) (mo q.2.1)))
  | _,_=>none
 | _=>none
theorem pl2Sp_ok:∀ args c v,pl2Sp args=some (c,v)→okConds c→PureOk Tryz.prog 77 args v:=by
 intro args c v hs hc us w ha
 unfold pl2Sp at hs
 split at hs
 case h_2=>cases hs
 split at hs
 case h_2=>cases hs
 rename_i p q hx hy
 injection hs with hs;injection hs with h1 h2;subst h1;subst h2
 obtain ⟨u1,us1,r1,⟨u2,us2,r2,ha,rfl⟩,rfl⟩:=ha
 exact pl2_ok hc.1 hc.2.1 hc.2.2.1 _ w ⟨u1,_,va_rel hx r1,⟨u2,_,va_rel hy r2,ha,rfl⟩,rfl⟩
def z6 (r:R J2):Bool:=dq r.1.1 0&&(dq r.1.2 0&&(dq r.2.1.1 0&&(dq r.2.1.2 0&&eqZ r.2.2)))
section
variable (r:R J2)
theorem po2_1:pureRun Tryz.prog oJ2 Tryz.f78 [va J2 r] [true] 500=some ([(z6 r,true)],.val true (zero24 true)):=by kernel_rfl
theorem po2_2:pureRun Tryz.prog oJ2 Tryz.f78 [va J2 r] [false,true] 500=some ([(z6 r,false),(eqZ r.2.2,true)],.val true (zero24 true)):=by kernel_rfl
noncomputable def qI (r:R J2):R FP2:=mu FP2 (iv FP2 r.2.2) (iv FP2 r.2.2)
theorem po2_3:pureRun Tryz.prog oJ2 Tryz.f78 [va J2 r] [false,false] 500=some ([(z6 r,false),(eqZ r.2.2,false)],.val true (lcat (av (mu FP2 r.1 (qI r))) (lcat (av (mu FP2 r.2.1 (mu FP2 (qI r) (iv FP2 r.2.2)))) [.b false]))):=by kernel_rfl
end
theorem po2_ok {r:R J2} (hz:redB r.2.2=true):PureOk Tryz.prog 78 [va J2 r] (ve (ptJ (mo r:J2))):=by
 have ez:eqZ r.2.2=decide ((mo r:J2).z=0):=by
  conv=>lhs;rw [← red_en hz]
  exact eqZ_en _
 have zz:rd (zero24 true)=some (en (.inf:P2):R P2):=by kernel_rfl
 by_cases h0:(mo r:J2).z=0
 ·rw [ptJ_zero h0]
  cases h3:z6 r with
  | true=>exact pure_sh (pure_ok oJ2ok mixed Tryz.func78 (po2_1 r) ⟨h3,trivial⟩ rfl) zz
  | false=>exact pure_sh (pure_ok oJ2ok mixed Tryz.func78 (po2_2 r) ⟨h3,by rw [ez];exact decide_eq_true h0,trivial⟩ rfl) zz
 ·have h3:z6 r=false:=by unfold z6;rw [ez,decide_eq_false h0];simp
  rw [ptJ_ne h0]
  refine pure_sh (pure_ok oJ2ok mixed Tryz.func78 (po2_3 r) ⟨h3,by rw [ez];exact decide_eq_false h0,trivial⟩ rfl) ?_
  have e:(en (.pt ((mo r:J2).x*(FD.inv (mo r:J2).z*FD.inv (mo r:J2).z)) ((mo r:J2).y*((FD.inv (mo r:J2).z*FD.inv (mo r:J2).z)*FD.inv (mo r:J2).z)):P2):R P2)=(mu FP2 r.1 (qI r),mu FP2 r.2.1 (mu FP2 (qI r) (iv FP2 r.2.2)),false):=by
   unfold qI mu iv
   simp only [mo_en]
   rfl
  rw [e]
  exact rd_pt _ _
noncomputable def po2Sp:List AV→Option (List (Bool×Bool)×AV)
 | [.val true a]=>match (rd a:Option (R J2)) with
  | some p=>some ([(redB p.2.2,true)],ve (ptJ (mo p:J2)))
  | _=>none
 | _=>none
theorem po2Sp_ok:∀ args c v,po2Sp args=some (c,v)→okConds c→PureOk Tryz.prog 78 args v:=by
 intro args c v hs hc us w ha
 unfold po2Sp at hs
 split at hs
 case h_2=>cases hs
 split at hs
 case h_2=>cases hs
 rename_i p hx
 injection hs with hs;injection hs with h1 h2;subst h1;subst h2
 obtain ⟨u1,us1,r1,ha,rfl⟩:=ha
 exact po2_ok hc.1 _ w ⟨u1,_,va_rel hx r1,ha,rfl⟩
noncomputable def SJ3:List (FuncId×ASpec):=(77,condSpec pl2Sp)::(78,condSpec po2Sp)::SJ2
theorem SJ3ok:SpecsOk Tryz.prog SJ3:=⟨condSpec_ok Tryz.func77 (by kernel_rfl) (by kernel_rfl) pl2Sp_ok,condSpec_ok Tryz.func78 (by kernel_rfl) (by kernel_rfl) po2Sp_ok,SJ2ok⟩
noncomputable abbrev oJ3:Orc:=orc SJ3 KH
theorem oJ3ok:OrcOk Tryz.prog oJ3:=orc_ok SJ3ok KHok
end Go.Proofs.YtjlcdlekmpjjnaaGreat
/- g2.Mul: the contract. -/
namespace Go.Proofs.YtjlcdlekmpjjnaaGreat
open Ex Num Rg
open Sh (R av rd mo en mo_en)
set_option maxRecDepth 100000
set_option maxHeartbeats 4000000
noncomputable section
theorem bit_facts {off n:Nat} {xs:List Int} (hall:∀ d∈xs,0≤d∧d<18446744073709551616) (hn:n≤1125899906842624) {c:Nat} (hc:c<64*n) :
  wI (Int.tdiv (c:Int) 64)=((c / 64:Nat):Int)∧c / 64<n∧0≤powW xs off c∧0≤Int.tmod (c:Int) 64∧bitI (powW xs off c) (Int.tmod c 64)=((natL (win xs off n) / 2^c % 2:Nat):Int):=by
 have hq:Int.tdiv (c:Int) 64=((c / 64:Nat):Int):=by rw [Int.tdiv_eq_ediv_of_nonneg (by omega)];rfl
 have hr:Int.tmod (c:Int) 64=((c % 64:Nat):Int):=by rw [Int.tmod_eq_emod_of_nonneg (by omega)];rfl
 have hw:wI (Int.tdiv (c:Int) 64)=((c / 64:Nat):Int):=by rw [hq];exact wI_eq (by omega)
 have hjn:c / 64<n:=by omega
 have hlt:∀ d∈win xs off n,0≤d∧d<18446744073709551616:=win_has hall
 have hv:powW xs off c=(win xs off n).getD (c / 64) 0:=by
  unfold powW
  rw [hw,Int.toNat_natCast,Nat.mul_one]
  exact (bit_word hjn).symm
 have hvb:0≤powW xs off c∧powW xs off c<18446744073709551616:=by rw [hv];exact getD_bd hlt _
 refine ⟨hw,hjn,hvb.1,by rw [hr];omega,?_⟩
 obtain ⟨V,hV⟩:=Int.eq_ofNat_of_zero_le hvb.1
 rw [hr,← natL_bit _ c hlt,← hv,hV,Int.toNat_natCast]
 exact bitI_eq V _ (by omega) (by omega)
theorem win_lt {off n:Nat} {xs:List Int} (hall:∀ d∈xs,0≤d∧d<18446744073709551616) (hlen:off+n≤xs.length):natL (win xs off n)<2^(64*n):=by
 have hl:=natL_lt (win xs off n) (win_has hall)
 unfold win at hl ⊢
 rwa [List.length_take,List.length_drop,Nat.min_eq_left (by omega)] at hl
theorem half_bit (E c:Nat):E / 2^c=2*(E / 2^(c+1))+E / 2^c % 2:=by rw [Nat.pow_succ,← Nat.div_div_eq_div_mul];omega
noncomputable def hmTodo:List Item:=todoOf (aSeg Tryz.prog oJ3 (some 0) 500 1 none (entry Tryz.f24 [slA 0 0 0 0,ve (.pt 0 0:P2)] (seqH []) 1 [false,false]))
noncomputable def hmT (off n m:Nat) (i:Int):List AV:=.val false [.sl 0 off n m]::.any::.any::.val false [.p 1 0]::.val false [.p 2 0]::.val false [.n .i64 0]::.val false [.p 3 0]::.val false [.v (.int .i64 i)]::List.replicate (Tryz.f24.ntmps-8) .any
def hmH (xs:List Int) (p:P2):Heap:=[(0,some (roB [.seq .u64 xs])),(1,some ⟨41,av (en p:R P2),false⟩),(2,some ⟨41,zero24 false,false⟩)]
noncomputable def hmS (off n m:Nat) (xs:List Int) (p:P2) (out:List Ch) (i:Int) (path:List Bool):ASt:=⟨hmTodo,⟨hmT off n m i,List.append (hmH xs p) [(3,some ⟨98,out,false⟩)],4,path⟩⟩
def jC2 (j:J2):List Ch:=av (en j:R J2)
def jR (j:J2):J2:=mo (en j:R J2)
def plP2 (j:J2) (p:P2):J2:=plJ (mo (en (twJ (jR j)):R J2)) (mo (rX p)) (mo (rY p))
def hmArgs (r:R P2) (off n m:Nat):List AV:=[slA 0 off n m,va P2 r]
def pR2 (p:P2):P2:=mo (en p:R P2)
abbrev kM:Option (List Nat×List Nat×Nat):=some ([0,3,4,5,6,7],[0,1,2,3],4)
theorem hm_entry (r:R P2) (off n m:Nat) (xs:List Int):aSeg Tryz.prog oJ3 (some 0) 500 1 kM (entry Tryz.f24 (hmArgs r off n m) (seqH xs) 1 [false,false]) =
 some ([(!on2 (pR2 (mo r)),false),(pI1 (mo r:P2),false),(hasB .i64 n,true)],[],hmS off n m xs (mo r) zero36 (wI (wI (64*(n:Int))-1)) []):=by kernel_rfl
def mA2 (q:P2) (e:Int):AV:=.tup [(true,av (en q:R P2)),(false,[.v (.int .i64 e)])]
def mN2 (q:P2) (e:Int):AV:=.tup [(true,av (en q:R P2)),(false,[.n .i64 e])]
theorem hm_off (r:R P2) (off n m:Nat) (xs:List Int):segOut Tryz.prog oJ3 Tryz.f24 500 1 [] (entry Tryz.f24 (hmArgs r off n m) (seqH xs) 1 [true]) =
 some ([(!on2 (pR2 (mo r)),true)],[],.tup [(true,zero24 false),(false,[.n .i64 120])],[]):=by kernel_rfl
theorem hm_inf (r:R P2) (off n m:Nat) (xs:List Int):segOut Tryz.prog oJ3 Tryz.f24 500 1 [] (entry Tryz.f24 (hmArgs r off n m) (seqH xs) 1 [false,true]) =
 some ([(!on2 (pR2 (mo r)),false),(pI1 (mo r:P2),true)],[],mN2 (mo r) 0,[]):=by kernel_rfl
section
variable (off n m:Nat) (xs:List Int) (p:P2) (j:J2) (i:Int)
theorem hm_zero:aSeg Tryz.prog oJ3 (some 0) 500 1 kM (hmS off n m xs p (jC2 j) i [true,true])=some (gmC off n xs i true [],[],hmS off n m xs p (jC2 (twJ (jR j))) (wI (i-1)) []):=by kernel_rfl
theorem hm_one:aSeg Tryz.prog oJ3 (some 0) 500 1 kM (hmS off n m xs p (jC2 j) i [true,false]) =
 some (gmC off n xs i false [(redB (en (twJ (jR j))).2.2,true),(redB (rX p),true),(redB (rY p),true)],[],hmS off n m xs p (jC2 (plP2 j p)) (wI (i-1)) []):=by kernel_rfl
theorem hm_exit:segOut Tryz.prog oJ3 Tryz.f24 500 1 [] (hmS off n m xs p (jC2 j) i [false])=some ([(decide (0≤i),false),(redB (en j).2.2,true)],[],mN2 (ptJ (jR j)) 0,[]):=by kernel_rfl
end
theorem hm_wf (off n m:Nat) (xs:List Int) (p:P2) (j:J2) (i:Int) (q:List Bool):wfSt Tryz.f24.ntmps (hmS off n m xs p (jC2 j) i q).s:=wfB_ok (by kernel_rfl)
theorem zero36_rel (β:Env) (l:List Value) (h:relL β zero36 l):relL β (jC2 ⟨0,0,0⟩) l:=Sh.rd_ok (r:=(en (⟨0,0,0⟩:J2):R J2)) (by kernel_rfl:rd zero36=some (en (⟨0,0,0⟩:J2):R J2)) h
section
variable {off n m:Nat} {xs:List Int} (hall:∀ d∈xs,0≤d∧d<18446744073709551616) (hlen:off+n≤xs.length) (hn:n≤1125899906842624) {p:P2} (hP:Rg.On C2.b p) (hI:pI1 p=false) {β0:Env} {w0:World} (hb:∀ b,1≤b→β0 b=none)
include hall hlen hn hb hP hI
theorem hm_safe:∀ (c:Nat) (j:J2),ptJ j=smul (natL (win xs off n) / 2^c) p→c≤64*n→ASafe Tryz.prog 24 β0 w0 (Outs β0 w0 [] (mN2 (smul (natL (win xs off n)) p) 0) []) Tryz.f24.ntmps [] (hmS off n m xs p (jC2 j) ((c:Int)-1) []):=by
 intro c
 induction c with
 | zero =>
  intro j hj _
  have h:ASafe Tryz.prog 24 β0 w0 (Outs β0 w0 [] (mN2 (ptJ (jR j)) 0) []) Tryz.f24.ntmps [] (hmS off n m xs p (jC2 j) (((0:Nat):Int)-1) [false]) :=
   out_safe oJ3ok mixed Tryz.func24 (hm_exit ..) ⟨rfl,redB_en j.z,trivial⟩ (hm_wf ..) hb (fun _ h=>by cases h)
  unfold jR at h
  rw [mo_en,hj,Nat.pow_zero,Nat.div_one] at h
  exact path_safe [false] h
 | succ c ih =>
  intro j hj hc
  have hi:((c+1:Nat):Int)-1=(c:Int):=by omega
  rw [hi]
  obtain ⟨hw,hjn,hv0,hr0,hbit⟩:=bit_facts (off:=off) hall hn (c:=c) (by omega)
  have hnext:wI ((c:Int)-1)=(c:Int)-1:=wI_eq (by omega)
  have hconds:∀ bit r,decide (bitI (powW xs off c) (Int.tmod c 64)=0)=bit→okConds r→okConds (gmC off n xs c bit r):=by
   intro bit r hbt hr'
   refine ⟨by simp,rfl,?_,?_,by simp,by simp only [decide_eq_true_eq];exact ⟨hr0,hv0⟩,hbt,hr'⟩
   ·rw [hw];simp;omega
   ·rw [hw];simp;omega
  have hoj:Rg.On C2.b (ptJ j):=by rw [hj];exact on_smul C2 hP _
  have ejR:jR j=j:=mo_en j
  have htw:ptJ (twJ (jR j))=smul (2*(natL (win xs off n) / 2^(c+1))) p:=by
   rw [ejR,ptJ_tw C2 hoj,hj,← smul_add C2 hP,Nat.two_mul]
  have hd:=half_bit (natL (win xs off n)) c
  rcases Nat.mod_two_eq_zero_or_one (natL (win xs off n) / 2^c) with h0 | h1
  ·refine path_safe [true,true] (seg_safe oJ3ok mixed (hm_zero ..) (hconds true [] (by rw [hbit,h0];rfl) trivial) (hm_wf ..) hb (fun _ h=>by cases h) fun _=>?_)
   rw [hnext]
   refine ih _ ?_ (by omega)
   rw [htw,hd,h0];rfl
  ·refine path_safe [true,false] (seg_safe oJ3ok mixed (hm_one ..) (hconds false _ (by rw [hbit,h1];rfl) ⟨redB_en (twJ (jR j)).z,redB_en (pX1 p),redB_en (pY1 p),trivial⟩) (hm_wf ..) hb (fun _ h=>by cases h) fun _=>?_)
   rw [hnext]
   refine ih _ ?_ (by omega)
   unfold plP2
   rw [mo_en,ptJ_pl C2 (by rw [htw];exact on_smul C2 hP _),htw,hd,h1]
   cases p with
   | inf=>cases hI
   | pt a b =>
    show add _ (.pt (mo (en a)) (mo (en b)))=_
    rw [mo_en,mo_en];rfl
end
def mulP2 (N:Nat) (p:P2):P2:=if on2 p=true then smul N p else .pt 0 0
def mulE2 (p:P2):Int:=if on2 p=true then 0 else 120
theorem mN2_A {β:Env} {q:P2} {e:Int} {u:Value} (h:relA β (mN2 q e) u):relA β (mA2 q e) u:=relT2 (fun _ q=>q) (fun _ q=>gval rfl q) h
theorem hm_can {off n m:Nat} {xs:List Int} (hall:∀ d∈xs,0≤d∧d<18446744073709551616) (hlen:off+n≤xs.length) (hn:n≤1125899906842624) (r:R P2) :
  CanOk Tryz.prog 24 (hmArgs r off n m) (seqH xs) 1 [] (mA2 (mulP2 (natL (win xs off n)) (mo r)) (mulE2 (mo r))) []:=by
 have e1:=hm_entry r off n m xs
 have e2:=hm_off r off n m xs
 have e3:=hm_inf r off n m xs
 unfold pR2 at e1 e2 e3
 rw [mo_en] at e1 e2 e3
 generalize (mo r:P2)=p at *
 cases ho:on2 p with
 | false =>
  unfold mulP2 mulE2
  rw [if_neg (by rw [ho];exact Bool.false_ne_true),if_neg (by rw [ho];exact Bool.false_ne_true)]
  refine can_val (can_entry (path:=[true]) Tryz.func24 (by kernel_rfl) (by kernel_rfl) fun β0 w0 hb =>
   out_safe oJ3ok mixed Tryz.func24 e2 ⟨by rw [ho];rfl,trivial⟩ (wfB_ok (by kernel_rfl)) hb (fun _ h=>by cases h)) fun β u hu=>?_
  exact relT2 (fun _ q=>va_rel (r:=(en (.pt 0 0:P2):R P2)) (by kernel_rfl) q) (fun _ q=>gval rfl q) hu
 | true =>
  have hP:=(on2_iff p).1 ho
  unfold mulP2 mulE2
  rw [if_pos ho,if_pos ho]
  cases hI:pI1 p with
  | true =>
   have hp:p=.inf:=by cases p with | inf=>rfl | pt a b=>cases hI
   have hs:smul (natL (win xs off n)) p=p:=by rw [hp,smul_inf]
   rw [hs]
   exact can_val (can_entry (path:=[false,true]) Tryz.func24 (by kernel_rfl) (by kernel_rfl) fun β0 w0 hb =>
    out_safe oJ3ok mixed Tryz.func24 e3 ⟨by rw [ho];rfl,hI,trivial⟩ (wfB_ok (by kernel_rfl)) hb (fun _ h=>by cases h)) fun β u hu=>mN2_A hu
  | false =>
   refine can_val (can_entry (path:=[false,false]) Tryz.func24 (by kernel_rfl) (by kernel_rfl) fun β0 w0 hb=>?_) fun β u hu=>mN2_A hu
   refine seg_safe oJ3ok mixed e1 ⟨by rw [ho];rfl,hI,hasB_len hn,trivial⟩ (wfB_ok (by kernel_rfl)) hb (fun _ h=>by cases h) fun _=>?_
   have e4:wI (wI (64*(n:Int))-1)=((64*n:Nat):Int)-1:=by
    rw [wI_eq (z:=64*(n:Int)) (by omega),wI_eq (by omega)];omega
   rw [e4]
   refine heap_safe zero36_rel (hm_safe hall hlen hn hP hI hb (64*n) ⟨0,0,0⟩ ?_ (Nat.le_refl _))
   rw [ptJ_zero rfl,Nat.div_eq_of_lt (win_lt hall hlen)];rfl
def wsSp (α:Type) [Sh α] (g:List Int→R α→AV):ASpec:=fun args H fr path =>
 match args with
 | [S,.val true a]=>match asSl S with
  | some (k,off,n)=>match (rd a:Option (R α)),hget H k with
   | some r,some ⟨_,cs,_⟩=>match toSeq .u64 cs with
    | some xs=>some (trR [k] 1 fr 0 [] (g (win xs off n) r) [] [(Nat.ble (off+n) xs.length,true),(Nat.ble n 1125899906842624,true)] path)
    | none=>none
   | _,_=>none
  | none=>none
 | _=>none
theorem wsSp_ok {α:Type} [Sh α] {f:FuncId} {fn:Func} {g:List Int→R α→AV} (hfn:Tryz.prog.funcs[f]? = some fn) (hb:fn.body.isSome=true) (hname:(fn.name=="runtime.NumGoroutine")=false) (hk:∀ l r,canB 1 0 [] (g l r) []=true)
  (h:∀ (off n m:Nat) (xs:List Int) (r:R α),(∀ d∈xs,0≤d∧d<18446744073709551616)→off+n≤xs.length→n≤1125899906842624→CanOk Tryz.prog f [slA 0 off n m,va α r] (seqH xs) 1 [] (g (win xs off n) r) []):SpecOk Tryz.prog f (wsSp α g):=by
 refine can_spec2 hfn hb hname fun args H fr path r hs=>?_
 unfold wsSp at hs
 split at hs
 case h_2=>cases hs
 rename_i S a
 split at hs
 case h_2=>cases hs
 rename_i k off n hS
 split at hs
 case h_2=>cases hs
 rename_i q ty cs o hx hk'
 split at hs
 case h_2=>cases hs
 rename_i xs hxs
 injection hs with hs
 refine ⟨[k],1,0,[],_,_,_,path,hs.symm,fun β us w ha hg hc=>?_⟩
 obtain ⟨u1,us1,r1,⟨u2,us2,r2,ha,rfl⟩,rfl⟩:=ha
 obtain ⟨m,r1⟩:=asSl_rel hS r1
 obtain ⟨g1,g2,g3⟩:=good_seq hg hk' hxs
 exact ⟨[slA 0 off n m,va α q],seqH xs,h off n m xs q g1 (Nat.le_of_ble_eq_true hc.1) (Nat.le_of_ble_eq_true hc.2.1),hk _ _,⟨u1,_,sl_in (by omega) rfl r1,⟨u2,us2,va_rel hx r2,ha,rfl⟩,rfl⟩,g2,g3⟩
def SJ4:List (FuncId×ASpec):=(24,nilSpec (wsSp P2 fun l r=>mA2 (mulP2 (natL l) (mo r)) (mulE2 (mo r))))::SJ3
theorem SJ4ok:SpecsOk Tryz.prog SJ4:=⟨nilSpec_ok (wsSp_ok Tryz.func24 (by kernel_rfl) (by kernel_rfl) (fun _ _=>by kernel_rfl) fun _ _ _ _ r hx hl hn=>hm_can hx hl hn r),SJ3ok⟩
end
end Go.Proofs.YtjlcdlekmpjjnaaGreat
/- fr.R; sub: In1, In2: the contracts. -/
namespace Go.Proofs.YtjlcdlekmpjjnaaGreat
open Ex Num Rg
open Sh (R av rd mo en mo_en)
set_option maxRecDepth 100000
set_option maxHeartbeats 4000000
noncomputable section
def rQ:Nat:=0x73eda753299d7d483339d80809a1d80553bda402fffe5bfeffffffff00000001
theorem rN_ex:∃ n,n=rQ:=⟨_,rfl⟩
def rN:Nat:=Classical.choose rN_ex
theorem rN_eq:rN=rQ:=Classical.choose_spec rN_ex
def RL:List Int:=[0xffffffff00000001,0x53bda402fffe5bfe,0x3339d80809a1d805,0x73eda753299d7d48]
theorem natL_RL:natL (win RL 0 4)=rN:=(by kernel_rfl:natL (win RL 0 4)=rQ).trans rN_eq.symm
def RLc:List Ch:=RL.map fun i=>.n .u64 i
theorem frR_run:pureRun Tryz.prog (orc S0 K0) Tryz.f129 [] [] 100=some ([],.val true RLc):=by kernel_rfl
theorem frR_ok:PureOk Tryz.prog 129 [] (.val true RLc):=pure_ok (orc_ok S0ok K0ok) mixed Tryz.func129 frR_run trivial rfl
def SJa:List (FuncId×ASpec):=(129,pureSpec (ev FP (.val true RLc)))::SJ4
theorem SJaok:SpecsOk Tryz.prog SJa:=⟨pureSpec_ok Tryz.func129 (by kernel_rfl) (by kernel_rfl) (ev_ok (α:=FP) frR_ok),SJ4ok⟩
abbrev oJa:Orc:=orc SJa KH
theorem oJaok:OrcOk Tryz.prog oJa:=orc_ok SJaok KHok
def SJb:List (FuncId×ASpec):=(93,inlSpec Tryz.prog oJa Tryz.f93 100)::(95,inlSpec Tryz.prog oJa Tryz.f95 100)::SJa
theorem SJbok:SpecsOk Tryz.prog SJb:=⟨inl_ok oJaok mixed Tryz.func93 (by kernel_rfl) (by kernel_rfl) 100,inl_ok oJaok mixed Tryz.func95 (by kernel_rfl) (by kernel_rfl) 100,SJaok⟩
abbrev oJb:Orc:=orc SJb KH
theorem oJbok:OrcOk Tryz.prog oJb:=orc_ok SJbok KHok
def SJc:List (FuncId×ASpec):=(92,inlSpec Tryz.prog oJb Tryz.f92 300)::(94,inlSpec Tryz.prog oJb Tryz.f94 300)::SJb
theorem SJcok:SpecsOk Tryz.prog SJc:=⟨inl_ok oJbok mixed Tryz.func92 (by kernel_rfl) (by kernel_rfl) 300,inl_ok oJbok mixed Tryz.func94 (by kernel_rfl) (by kernel_rfl) 300,SJbok⟩
abbrev oJc:Orc:=orc SJc KH
theorem oJcok:OrcOk Tryz.prog oJc:=orc_ok SJcok KHok
def in1 (p:Pt FP):Bool:=onP p&&ptI (smul rN p)
def in2 (p:P2):Bool:=on2 p&&pI1 (smul rN p)
def rW:List Int:=win RL (0+0*1) (4-0)
theorem rW_eq:natL rW=rN:=natL_RL
section
variable (r:R P2) (x y:Nat) (i:Bool)
theorem in2_t:pureRun Tryz.prog oJc Tryz.f31 [va P2 r] [true] 500=some (tt 2 [(decide (mulE2 (mo r)=0),true)],boolA (en (mulP2 (natL rW) (mo r)):R P2).2.2):=by kernel_rfl
theorem in2_f:pureRun Tryz.prog oJc Tryz.f31 [va P2 r] [false] 500=some (tt 2 [(decide (mulE2 (mo r)=0),false)],.val false [.b false]):=by kernel_rfl
theorem in1_t:pureRun Tryz.prog oJc Tryz.f30 [g1A x y i] [true] 500=some (tt 2 [(decide (mulE (toPt x y i)=0),true)],boolA (ptI (mulP (natL rW) (toPt x y i)))):=by kernel_rfl
theorem in1_f:pureRun Tryz.prog oJc Tryz.f30 [g1A x y i] [false] 500=some (tt 2 [(decide (mulE (toPt x y i)=0),false)],.val false [.b false]):=by kernel_rfl
end
theorem in2_ok (r:R P2):PureOk Tryz.prog 31 [va P2 r] (boolA (in2 (mo r))):=by
 have h1:=in2_t r
 have h2:=in2_f r
 generalize (mo r:P2)=p at *
 unfold in2
 cases ho:on2 p with
 | true =>
  have e:en (mulP2 (natL rW) p)=(en (smul rN p):R P2):=by unfold mulP2;rw [if_pos ho,rW_eq]
  rw [e] at h1
  exact pure_ok oJcok mixed Tryz.func31 h1 (tt_ok 2 ⟨by unfold mulE2;rw [if_pos ho];rfl,trivial⟩) rfl
 | false=>exact pure_val (pure_ok oJcok mixed Tryz.func31 h2 (tt_ok 2 ⟨by unfold mulE2;rw [if_neg (by rw [ho];exact Bool.false_ne_true)];rfl,trivial⟩) rfl) fun u hu=>bv_one rfl hu
theorem in1_ok (x y:Nat) (i:Bool):PureOk Tryz.prog 30 [g1A x y i] (boolA (in1 (toPt x y i))):=by
 have h1:=in1_t x y i
 have h2:=in1_f x y i
 generalize toPt x y i=p at *
 unfold in1
 cases ho:onP p with
 | true =>
  have e:mulP (natL rW) p=smul rN p:=by unfold mulP;rw [if_pos ho,rW_eq]
  rw [e] at h1
  exact pure_ok oJcok mixed Tryz.func30 h1 (tt_ok 2 ⟨by unfold mulE;rw [if_pos ho];rfl,trivial⟩) rfl
 | false=>exact pure_val (pure_ok oJcok mixed Tryz.func30 h2 (tt_ok 2 ⟨by unfold mulE;rw [if_neg (by rw [ho];exact Bool.false_ne_true)];rfl,trivial⟩) rfl) fun u hu=>bv_one rfl hu
def SJd:List (FuncId×ASpec):=(30,pureSpec (spG fun p=>boolA (in1 p)))::(31,pureSpec (sq1 P2 fun r=>boolA (in2 (mo r))))::SJc
theorem SJdok:SpecsOk Tryz.prog SJd:=⟨pureSpec_ok Tryz.func30 (by kernel_rfl) (by kernel_rfl) (spG_ok in1_ok),pureSpec_ok Tryz.func31 (by kernel_rfl) (by kernel_rfl) (sq1_ok in2_ok),SJcok⟩
end
end Go.Proofs.YtjlcdlekmpjjnaaGreat
/- codec.Encode1, Encode2: the contracts. -/
namespace Go.Proofs.YtjlcdlekmpjjnaaGreat
open Ex Num Rg
open Sh (R av rd mo en mo_en)
set_option maxRecDepth 100000
set_option maxHeartbeats 4000000
noncomputable section
abbrev oJd:Orc:=orc SJd KH
theorem oJdok:OrcOk Tryz.prog oJd:=orc_ok SJdok KHok
def SJe:List (FuncId×ASpec):=(140,inlSpec Tryz.prog oJd Tryz.f140 100)::(79,inlSpec Tryz.prog oJd Tryz.f79 500)::SJd
theorem SJeok:SpecsOk Tryz.prog SJe:=⟨inl_ok oJdok mixed Tryz.func140 (by kernel_rfl) (by kernel_rfl) 100,inl_ok oJdok mixed Tryz.func79 (by kernel_rfl) (by kernel_rfl) 500,SJdok⟩
abbrev oJe:Orc:=orc SJe KH
theorem oJeok:OrcOk Tryz.prog oJe:=orc_ok SJeok KHok
def bg2 (a:FP2):Bool:=if a.b=0 then biggerN a.a.val else biggerN a.b.val
theorem bg2_z (r:R FP2):pureRun Tryz.prog oJe Tryz.f82 [va FP2 r] [true] 300=some ([(dq (re FP r.2) 0,true)],boolA (biggerN r.1)):=by kernel_rfl
theorem bg2_n (r:R FP2):pureRun Tryz.prog oJe Tryz.f82 [va FP2 r] [false] 300=some ([(dq (re FP r.2) 0,false)],boolA (biggerN r.2)):=by kernel_rfl
theorem biggerN_mod (x:Nat):biggerN x=biggerN (tf x).val:=by
 unfold biggerN negN
 show _=decide ((pN-x % pN % pN) % pN<x % pN % pN)
 rw [Nat.mod_mod]
theorem bg2_ok (r:R FP2):PureOk Tryz.prog 82 [va FP2 r] (boolA (bg2 (mo r))):=by
 have e:dq (re FP r.2) 0=decide ((mo r:FP2).b=0):=dq_val (mo r:FP2).b 0
 have h1:=bg2_z r
 have h2:=bg2_n r
 unfold bg2
 by_cases h:(mo r:FP2).b=0
 ·rw [if_pos h]
  rw [show biggerN r.1=biggerN (mo r:FP2).a.val from biggerN_mod _] at h1
  exact pure_ok oJeok mixed Tryz.func82 h1 ⟨by rw [e];exact decide_eq_true h,trivial⟩ rfl
 ·rw [if_neg h]
  rw [show biggerN r.2=biggerN (mo r:FP2).b.val from biggerN_mod _] at h2
  exact pure_ok oJeok mixed Tryz.func82 h2 ⟨by rw [e];exact decide_eq_false h,trivial⟩ rfl
def SJf:List (FuncId×ASpec):=(80,inlSpec Tryz.prog oJe Tryz.f80 300)::(82,pureSpec (sq1 FP2 fun r=>boolA (bg2 (mo r))))::SJe
theorem SJfok:SpecsOk Tryz.prog SJf:=⟨inl_ok oJeok mixed Tryz.func80 (by kernel_rfl) (by kernel_rfl) 300,pureSpec_ok Tryz.func82 (by kernel_rfl) (by kernel_rfl) (sq1_ok bg2_ok),SJeok⟩
abbrev oJf:Orc:=orc SJf KH
theorem oJfok:OrcOk Tryz.prog oJf:=orc_ok SJfok KHok
def orF (l:List Int) (f:Int):List Int:=l.set 0 (bits .or .u8 (l.getD 0 0) f)
def b1 (p:Pt FP):List Int:=octL (ptX p % pN) 48++octL (ptY p % pN) 48
def eE (s:Bool) (k:Nat):AV:=match s with
 | true=>.tup [(false,[.sl 7 0 k k]),(false,[.n .i64 0])]
 | false=>.tup [(false,[.sx 7 (2*k) 1]),(false,[.n .i64 0])]
def eH (l:List Int):Heap:=[(7,some ⟨5,[.seq .u8 l],true⟩)]
section
variable (x y:Nat) (i:Bool)
noncomputable def eS1 (s:Bool) (p:List Bool):ASt:=entry Tryz.f26 [g1A x y i,.val false [.b s]] [] 0 p
theorem en1_off (s:Bool):segOut Tryz.prog oJf Tryz.f26 800 0 [] (eS1 x y i s [true])=some ([(!in1 (toPt x y i),true)],[],.tup [(false,[.v (.slice none 0 0)]),(false,[.n .i64 140])],[]):=by kernel_rfl
def eC (p:Pt FP) (r:List (Bool×Bool)):List (Bool×Bool):=(!in1 p,false)::tt 10 ((false,false)::r)
theorem en1_li:segOut Tryz.prog oJf Tryz.f26 800 0 [7] (eS1 x y i false [false,true,true,false,true])=some (eC (toPt x y i) ((ptI (toPt x y i),true)::tt 4 []),[],eE false 48,eH (orF (b1 (toPt x y i)) 64)):=by kernel_rfl
theorem en1_lp:segOut Tryz.prog oJf Tryz.f26 800 0 [7] (eS1 x y i false [false,true,true,false,false])=some (eC (toPt x y i) [(ptI (toPt x y i),false)],[],eE false 48,eH (b1 (toPt x y i))):=by kernel_rfl
theorem en1_si:segOut Tryz.prog oJf Tryz.f26 800 0 [7] (eS1 x y i true [false,true,true,false,true,false])=some (eC (toPt x y i) (tt 10 ((ptI (toPt x y i),true)::tt 4 [(biggerN (ptY (toPt x y i)),false)])),[],eE true 48,eH (orF (orF (b1 (toPt x y i)) 128) 64)):=by kernel_rfl
theorem en1_sb:segOut Tryz.prog oJf Tryz.f26 800 0 [7] (eS1 x y i true [false,true,true,false,false,true,true])=some (eC (toPt x y i) (tt 10 ((ptI (toPt x y i),false)::(biggerN (ptY (toPt x y i)),true)::(!ptI (toPt x y i),true)::tt 4 [])),[],eE true 48,eH (orF (orF (b1 (toPt x y i)) 128) 32)):=by kernel_rfl
theorem en1_sp:segOut Tryz.prog oJf Tryz.f26 800 0 [7] (eS1 x y i true [false,true,true,false,false,false])=some (eC (toPt x y i) (tt 10 [(ptI (toPt x y i),false),(biggerN (ptY (toPt x y i)),false)]),[],eE true 48,eH (orF (b1 (toPt x y i)) 128)):=by kernel_rfl
end
def e1L (s:Bool) (p:Pt FP):List Int:=match s,ptI p with
 | false,true=>orF (b1 p) 64
 | false,false=>b1 p
 | true,true=>orF (orF (b1 p) 128) 64
 | true,false=>if biggerN (ptY p)=true then orF (orF (b1 p) 128) 32 else orF (b1 p) 128
theorem en1_can {x y:Nat} {i s:Bool} (hin:in1 (toPt x y i)=true):CanOk Tryz.prog 26 [g1A x y i,.val false [.b s]] [] 0 [] (eE s 48) (eH (e1L s (toPt x y i))):=by
 have h1:=en1_li x y i
 have h2:=en1_lp x y i
 have h3:=en1_si x y i
 have h4:=en1_sb x y i
 have h5:=en1_sp x y i
 unfold eS1 at *
 generalize toPt x y i=p at *
 have hC:∀ r,okConds r→okConds (eC p r):=fun r hr=>⟨by rw [hin];rfl,tt_ok 10 ⟨rfl,hr⟩⟩
 unfold e1L
 cases s with
 | false=>cases hp:ptI p with
  | true=>exact can_run SJfok KHok Tryz.func26 (by kernel_rfl) (by kernel_rfl) h1 (by kernel_rfl) (hC _ ⟨hp,tt_ok 4 trivial⟩)
  | false=>exact can_run SJfok KHok Tryz.func26 (by kernel_rfl) (by kernel_rfl) h2 (by kernel_rfl) (hC _ ⟨hp,trivial⟩)
 | true=>cases hp:ptI p with
  | true =>
   have hb:biggerN (ptY p)=false:=by
    have:p=.inf:=by cases p with | inf=>rfl | pt a b=>cases hp
    rw [this];rfl
   exact can_run SJfok KHok Tryz.func26 (by kernel_rfl) (by kernel_rfl) h3 (by kernel_rfl) (hC _ (tt_ok 10 ⟨hp,tt_ok 4 ⟨hb,trivial⟩⟩))
  | false =>
   by_cases hb:biggerN (ptY p)=true
   ·simp only [if_pos hb]
    exact can_run SJfok KHok Tryz.func26 (by kernel_rfl) (by kernel_rfl) h4 (by kernel_rfl) (hC _ (tt_ok 10 ⟨hp,hb,by rw [hp];rfl,tt_ok 4 trivial⟩))
   ·simp only [if_neg hb]
    exact can_run SJfok KHok Tryz.func26 (by kernel_rfl) (by kernel_rfl) h5 (by kernel_rfl) (hC _ (tt_ok 10 ⟨hp,by simpa using hb,trivial⟩))
end
end Go.Proofs.YtjlcdlekmpjjnaaGreat
/- codec.Encode2: the contract; both Encodes on offer. -/
namespace Go.Proofs.YtjlcdlekmpjjnaaGreat
open Ex Num Rg
open Sh (R av rd mo en mo_en)
set_option maxRecDepth 100000
set_option maxHeartbeats 4000000
noncomputable section
def o48 (x:Nat):List Int:=octL (x % pN) 48
def b2 (p:P2):List Int:=((o48 (rX p).2++o48 (rX p).1)++o48 (rY p).2)++o48 (rY p).1
def eE2 (s:Bool) (k:Nat):AV:=match s with
 | true=>.tup [(false,[.sl 13 0 k k]),(false,[.n .i64 0])]
 | false=>.tup [(false,[.sx 13 (2*k) 1]),(false,[.n .i64 0])]
def eH2 (l:List Int):Heap:=[(13,some ⟨5,[.seq .u8 l],true⟩)]
section
variable (r:R P2)
noncomputable def eS2 (s:Bool) (p:List Bool):ASt:=entry Tryz.f27 [va P2 r,.val false [.b s]] [] 0 p
theorem en2_off (s:Bool):segOut Tryz.prog oJf Tryz.f27 800 0 [] (eS2 r s [true])=some ([(!in2 (mo r),true)],[],.tup [(false,[.v (.slice none 0 0)]),(false,[.n .i64 140])],[]):=by kernel_rfl
def eC2 (p:P2) (l:List (Bool×Bool)):List (Bool×Bool):=(!in2 p,false)::tt 20 ((false,false)::l)
theorem en2_li:segOut Tryz.prog oJf Tryz.f27 1200 0 [13] (eS2 r false [false,true,true,true,true,false,true])=some (eC2 (mo r) ((pI1 (mo r:P2),true)::tt 4 []),[],eE2 false 96,eH2 (orF (b2 (mo r)) 64)):=by kernel_rfl
theorem en2_lp:segOut Tryz.prog oJf Tryz.f27 1200 0 [13] (eS2 r false [false,true,true,true,true,false,false])=some (eC2 (mo r) [(pI1 (mo r:P2),false)],[],eE2 false 96,eH2 (b2 (mo r))):=by kernel_rfl
def bgR (p:P2):Bool:=bg2 (mo (rY p))
theorem en2_si:segOut Tryz.prog oJf Tryz.f27 1200 0 [13] (eS2 r true [false,true,true,true,true,false,true,false])=some (eC2 (mo r) (tt 10 ((pI1 (mo r:P2),true)::tt 4 [(bgR (mo r),false)])),[],eE2 true 96,eH2 (orF (orF (b2 (mo r)) 128) 64)):=by kernel_rfl
theorem en2_sb:segOut Tryz.prog oJf Tryz.f27 1200 0 [13] (eS2 r true [false,true,true,true,true,false,false,true,true])=some (eC2 (mo r) (tt 10 ((pI1 (mo r:P2),false)::(bgR (mo r),true)::(!pI1 (mo r:P2),true)::tt 4 [])),[],eE2 true 96,eH2 (orF (orF (b2 (mo r)) 128) 32)):=by kernel_rfl
theorem en2_sp:segOut Tryz.prog oJf Tryz.f27 1200 0 [13] (eS2 r true [false,true,true,true,true,false,false,false])=some (eC2 (mo r) (tt 10 [(pI1 (mo r:P2),false),(bgR (mo r),false)]),[],eE2 true 96,eH2 (orF (b2 (mo r)) 128)):=by kernel_rfl
end
def e2L (s:Bool) (p:P2):List Int:=match s,pI1 p with
 | false,true=>orF (b2 p) 64
 | false,false=>b2 p
 | true,true=>orF (orF (b2 p) 128) 64
 | true,false=>if bg2 (pY1 p)=true then orF (orF (b2 p) 128) 32 else orF (b2 p) 128
theorem en2_can {r:R P2} {s:Bool} (hin:in2 (mo r)=true):CanOk Tryz.prog 27 [va P2 r,.val false [.b s]] [] 0 [] (eE2 s 96) (eH2 (e2L s (mo r))):=by
 have h1:=en2_li r
 have h2:=en2_lp r
 have h3:=en2_si r
 have h4:=en2_sb r
 have h5:=en2_sp r
 have eb:∀ p,bgR p=bg2 (pY1 p):=fun p=>congrArg bg2 (mo_en (pY1 p))
 rw [eb] at h3 h4 h5
 unfold eS2 at *
 generalize (mo r:P2)=p at *
 have hC:∀ l,okConds l→okConds (eC2 p l):=fun l hr=>⟨by rw [hin];rfl,tt_ok 20 ⟨rfl,hr⟩⟩
 unfold e2L
 cases s with
 | false=>cases hp:pI1 p with
  | true=>exact can_run SJfok KHok Tryz.func27 (by kernel_rfl) (by kernel_rfl) h1 (by kernel_rfl) (hC _ ⟨hp,tt_ok 4 trivial⟩)
  | false=>exact can_run SJfok KHok Tryz.func27 (by kernel_rfl) (by kernel_rfl) h2 (by kernel_rfl) (hC _ ⟨hp,trivial⟩)
 | true=>cases hp:pI1 p with
  | true =>
   have hb:bg2 (pY1 p)=false:=by
    have:p=.inf:=by cases p with | inf=>rfl | pt a b=>cases hp
    rw [this]
    show bg2 0=false
    unfold bg2
    rw [if_pos (show (0:FP2).b=0 from rfl)];rfl
   exact can_run SJfok KHok Tryz.func27 (by kernel_rfl) (by kernel_rfl) h3 (by kernel_rfl) (hC _ (tt_ok 10 ⟨hp,tt_ok 4 ⟨hb,trivial⟩⟩))
  | false =>
   by_cases hb:bg2 (pY1 p)=true
   ·simp only [if_pos hb]
    exact can_run SJfok KHok Tryz.func27 (by kernel_rfl) (by kernel_rfl) h4 (by kernel_rfl) (hC _ (tt_ok 10 ⟨hp,hb,by rw [hp];rfl,tt_ok 4 trivial⟩))
   ·simp only [if_neg hb]
    exact can_run SJfok KHok Tryz.func27 (by kernel_rfl) (by kernel_rfl) h5 (by kernel_rfl) (hC _ (tt_ok 10 ⟨hp,by simpa using hb,trivial⟩))
def errV (e:Int):AV:=.tup [(false,[.v (.slice none 0 0)]),(false,[.n .i64 e])]
def encSp (α:Type) [Sh α] (inn:α→Bool) (V:Bool→AV) (H:Bool→α→Heap) (nw:Nat):ASpec:=fun args _ fr path=>match args with
 | [.val true a,B]=>match (rd a:Option (R α)),asB (some B),path with
  | some r,some (_,_),true::rest=>some (trR [] 0 fr 0 [] (errV 140) [] [(inn (mo r),false)] rest)
  | some r,some (_,true),false::rest=>some (trR [] 0 fr nw [] (V true) (H true (mo r)) [(inn (mo r),true)] rest)
  | some r,some (_,false),false::rest=>some (trR [] 0 fr nw [] (V false) (H false (mo r)) [(inn (mo r),true)] rest)
  | _,_,_=>none
 | _=>none
theorem bB_rel {β β':Env} {B:AV} {c s:Bool} {u:Value} (h:asB (some B)=some (c,s)) (hr:relA β B u):relA β' (.val false [.b s]) u:=by
 have:=asB_rel (β:=β) (u:=u) (fun A hA=>by injection hA with hA;subst hA;exact hr) h
 subst this
 exact rel_one' rfl
theorem encSp_ok {α:Type} [Sh α] {inn:α→Bool} {V:Bool→AV} {H:Bool→α→Heap} {nw:Nat} {f:FuncId} {fn:Func} (hfn:Tryz.prog.funcs[f]? = some fn) (hb:fn.body.isSome=true) (hname:(fn.name=="runtime.NumGoroutine")=false) (hk:∀ s x,canB 0 nw [] (V s) (H s x)=true)
  (h0:∀ (r:R α) (s:Bool),inn (mo r)=false→CanOk Tryz.prog f [va α r,.val false [.b s]] [] 0 [] (errV 140) [])
  (h1:∀ (r:R α) (s:Bool),inn (mo r)=true→CanOk Tryz.prog f [va α r,.val false [.b s]] [] 0 [] (V s) (H s (mo r))):SpecOk Tryz.prog f (encSp α inn V H nw):=by
 have hg':∀ (β:Env) (H0:Heap) (w:World),Ex.Good β H0 w→Ex.Good (inEnv β [] 0) [] w:=fun β _ w _=>by
  have hn:∀ b,inEnv β [] 0 b=none:=fun b=>by
   unfold inEnv
   have:Nat.blt b 0=false:=by cases b<;>rfl
   rw [this]
  exact ⟨(fun b blk h=>by cases h),(fun b b' B n n' h=>by cases h),(fun b B n h=>by rw [hn] at h;cases h)⟩
 refine can_spec2 hfn hb hname fun args H0 fr path r hs=>?_
 unfold encSp at hs
 split at hs
 case h_2=>cases hs
 rename_i a B
 split at hs
 case h_4=>cases hs
 all_goals injection hs with hs
 ·rename_i q c s rest hx hB
  refine ⟨[],0,0,[],_,_,_,_,hs.symm,fun β us w ha hgd hc=>?_⟩
  obtain ⟨u1,us1,r1,⟨u2,us2,r2,ha,rfl⟩,rfl⟩:=ha
  exact ⟨[va α q,.val false [.b s]],[],h0 q s hc.1,by kernel_rfl,⟨u1,_,va_rel hx r1,⟨u2,us2,bB_rel hB r2,ha,rfl⟩,rfl⟩,hg' β H0 w hgd,fun k hk=>by omega⟩
 ·rename_i q c rest hx hB
  refine ⟨[],0,nw,[],_,_,_,_,hs.symm,fun β us w ha hgd hc=>?_⟩
  obtain ⟨u1,us1,r1,⟨u2,us2,r2,ha,rfl⟩,rfl⟩:=ha
  exact ⟨[va α q,.val false [.b true]],[],h1 q true hc.1,hk _ _,⟨u1,_,va_rel hx r1,⟨u2,us2,bB_rel hB r2,ha,rfl⟩,rfl⟩,hg' β H0 w hgd,fun k hk=>by omega⟩
 ·rename_i q c rest hx hB
  refine ⟨[],0,nw,[],_,_,_,_,hs.symm,fun β us w ha hgd hc=>?_⟩
  obtain ⟨u1,us1,r1,⟨u2,us2,r2,ha,rfl⟩,rfl⟩:=ha
  exact ⟨[va α q,.val false [.b false]],[],h1 q false hc.1,hk _ _,⟨u1,_,va_rel hx r1,⟨u2,us2,bB_rel hB r2,ha,rfl⟩,rfl⟩,hg' β H0 w hgd,fun k hk=>by omega⟩
theorem en1_no (r:R (Pt FP)) (s:Bool) (h:in1 (mo r)=false):CanOk Tryz.prog 26 [va (Pt FP) r,.val false [.b s]] [] 0 [] (errV 140) [] :=
 can_run SJfok KHok Tryz.func26 (by kernel_rfl) (by kernel_rfl) (en1_off r.1 r.2.1 r.2.2 s) (by kernel_rfl) ⟨by rw [show in1 (toPt r.1 r.2.1 r.2.2)=false from h];rfl,trivial⟩
theorem en2_no (r:R P2) (s:Bool) (h:in2 (mo r)=false):CanOk Tryz.prog 27 [va P2 r,.val false [.b s]] [] 0 [] (errV 140) [] :=
 can_run SJfok KHok Tryz.func27 (by kernel_rfl) (by kernel_rfl) (en2_off r s) (by kernel_rfl) ⟨by rw [h];rfl,trivial⟩
def SJg:List (FuncId×ASpec):=(26,encSp (Pt FP) in1 (fun s=>eE s 48) (fun s p=>eH (e1L s p)) 8)::(27,encSp P2 in2 (fun s=>eE2 s 96) (fun s p=>eH2 (e2L s p)) 14)::SJf
theorem SJgok:SpecsOk Tryz.prog SJg:=⟨encSp_ok Tryz.func26 (by kernel_rfl) (by kernel_rfl) (fun s _=>by cases s<;>kernel_rfl) en1_no (fun r _ h=>en1_can (x:=r.1) (y:=r.2.1) (i:=r.2.2) h),encSp_ok Tryz.func27 (by kernel_rfl) (by kernel_rfl) (fun s _=>by cases s<;>kernel_rfl) en2_no (fun _ _ h=>en2_can h),SJfok⟩
end
end Go.Proofs.YtjlcdlekmpjjnaaGreat
/- sigillaw12: G1Names, G1Adds, G1Undoes: the walks. -/
namespace Go.Proofs.YtjlcdlekmpjjnaaGreat
open Ex Num Rg
set_option maxRecDepth 100000
set_option maxHeartbeats 4000000
section
variable {H:Type} {enc:TypeId×Value→H} {W:World} {base:Nat} {v:Value} {d:DataW H} {p:List MemPlace}
end
section
variable (x y:Nat) (i:Bool) (x' y':Nat) (i':Bool)
end
section
variable (x y:Nat) (i:Bool) (x' y':Nat) (i':Bool) (e:Nat)
end
end Go.Proofs.YtjlcdlekmpjjnaaGreat
/- The bases are of order r. -/
namespace Go.Proofs.YtjlcdlekmpjjnaaGreat
open Ex Num Rg
open Sh (R av rd mo en mo_en)
set_option maxRecDepth 100000
set_option maxHeartbeats 4000000
noncomputable section
def frc {α:Type} (x:Nat) (k:Nat→α):α:=Nat.rec (k 0) (fun n _=>k (Nat.succ n)) x
theorem frc_eq {α:Type} (x:Nat) (k:Nat→α):frc x k=k x:=by cases x<;>rfl
section
variable {F:Type} [Sh F] [FD F]
def jgo (fc:R (J F)→(R (J F)→Bool)→Bool) (z:R F→Bool) (a b:F) (N:Nat) (i:Nat):R (J F)→Bool :=
 Nat.rec (fun r=>z r.2.2) (fun i ih r=>fc (en (twJ (mo r:J F))) fun s=>cond (Nat.beq (N / 2^i % 2) 1) (fc (en (plJ (mo s:J F) a b)) ih) (ih s)) i
theorem jgo_ok (C:Cv F) {fc:R (J F)→(R (J F)→Bool)→Bool} {z:R F→Bool} {a b:F} {N:Nat} (hfc:∀ r k,fc r k=k r) (hz:∀ r:R F,z r=true→(mo r:F)=0) (hP:On C.b (.pt a b)) :
  ∀ (i:Nat) (r:R (J F)),ptJ (mo r:J F)=smul (N / 2^i) (.pt a b)→jgo fc z a b N i r=true→smul N (.pt a b)=.inf:=by
 intro i
 induction i with
 | zero =>
  intro r hr h
  rw [Nat.pow_zero,Nat.div_one] at hr
  rw [← hr]
  exact ptJ_zero (hz r.2.2 h)
 | succ i ih =>
  intro r hr h
  have h':fc (en (twJ (mo r:J F))) (fun s=>cond (Nat.beq (N / 2^i % 2) 1) (fc (en (plJ (mo s:J F) a b)) (jgo fc z a b N i)) (jgo fc z a b N i s))=true:=h
  rw [hfc,hfc] at h'
  have hdiv:N / 2^i=2*(N / 2^(i+1))+N / 2^i % 2:=by
   rw [Nat.pow_succ,← Nat.div_div_eq_div_mul];omega
  have hoj:On C.b (ptJ (mo r:J F)):=by rw [hr];exact on_smul C hP _
  have htw:ptJ (twJ (mo r:J F))=smul (2*(N / 2^(i+1))) (.pt a b):=by
   rw [ptJ_tw C hoj,hr,← smul_add C hP,Nat.two_mul]
  have htw':ptJ (mo (en (twJ (mo r:J F)):R (J F)):J F)=smul (2*(N / 2^(i+1))) (.pt a b):=by rw [mo_en];exact htw
  cases hb:Nat.beq (N / 2^i % 2) 1 with
  | true =>
   rw [hb] at h'
   have h1:=Nat.eq_of_beq_eq_true hb
   refine ih _ ?_ h'
   rw [mo_en,ptJ_pl C (by rw [htw'];exact on_smul C hP _),htw']
   rw [hdiv,h1];rfl
  | false =>
   rw [hb] at h'
   have h1:N / 2^i % 2=0:=by
    have:=Nat.ne_of_beq_eq_false hb
    omega
   refine ih _ ?_ h'
   rw [htw',hdiv,h1];rfl
end
def fc1 (r:R (J FP)) (k:R (J FP)→Bool):Bool:=frc r.1 fun x=>frc r.2.1 fun y=>frc r.2.2 fun z=>k (x,y,z)
theorem fc1_eq (r:R (J FP)) (k:R (J FP)→Bool):fc1 r k=k r:=by unfold fc1;rw [frc_eq,frc_eq,frc_eq];rfl
def zr1 (r:R FP):Bool:=Nat.beq r 0
theorem zr1_ok (r:R FP) (h:zr1 r=true):(mo r:FP)=0:=by
 have:r=(0:Nat):=Nat.eq_of_beq_eq_true h
 rw [this];exact tf_zero
theorem rQ_zero:rQ / 2^255=0:=by kernel_rfl
theorem onG1:onP G1B=true:=(on_eqN gX gY).symm.trans (by kernel_rfl)
theorem jgo_G1:jgo fc1 zr1 (tf gX) (tf gY) rQ 255 (en (⟨0,0,0⟩:J FP))=true:=by kernel_rfl
theorem rG1:smul rN G1B=.inf:=by
 rw [rN_eq]
 exact jgo_ok C1 fc1_eq zr1_ok ((onP_iff G1B).1 onG1) 255 _ (by rw [mo_en,rQ_zero,ptJ_zero rfl];rfl) jgo_G1
theorem in1_G:in1 G1B=true:=by unfold in1;rw [onG1,rG1];rfl
end
end Go.Proofs.YtjlcdlekmpjjnaaGreat
/- sigilref01.Same: whether two lists of bytes are one: the contract. -/
namespace Go.Proofs.YtjlcdlekmpjjnaaGreat
open Ex Num
set_option maxRecDepth 100000
set_option maxHeartbeats 4000000
noncomputable section
def sqH (xs ys:List Int):Heap:=[(0,some (roB [.seq .u8 xs])),(1,some (roB [.seq .u8 ys]))]
noncomputable def saEnt (off n m off' n' m':Nat) (xs ys:List Int) (p:List Bool):ASt:=entry Tryz.f46 (sl2 off n m off' n' m') (sqH xs ys) 2 p
noncomputable def saTodo:List Item:=todoOf (aSeg Tryz.prog (orc S10 K0) (some 0) 100 2 none (saEnt 0 0 0 0 0 0 [] [] [false]))
noncomputable def saT (off n m off' n' m':Nat) (i:Int):List AV:=.val false [.sl 0 off n m]::.val false [.sl 1 off' n' m']::.any::.any::.any::.val false [.n .i64 i]::List.replicate (Tryz.f46.ntmps-6) .any
noncomputable def saS (off n m off' n' m':Nat) (xs ys:List Int) (i:Int) (p:List Bool):ASt:=⟨saTodo,⟨saT off n m off' n' m' i,sqH xs ys,2,p⟩⟩
abbrev saK:Option (List Nat×List Nat×Nat):=some ([0,1,5],[0,1],2)
section
variable (off n m off' n' m':Nat) (xs ys:List Int) (i:Int)
theorem sa_entry:aSeg Tryz.prog (orc S10 K0) (some 0) 100 2 saK (saEnt off n m off' n' m' xs ys [false])=some ([(hasB .i64 n,true),(hasB .i64 n',true),(!decide ((n:Int)=n'),false)],[],saS off n m off' n' m' xs ys 0 []):=by kernel_rfl
theorem sa_ne:segOut Tryz.prog (orc S10 K0) Tryz.f46 100 2 [] (saEnt off n m off' n' m' xs ys [true])=some ([(hasB .i64 n,true),(hasB .i64 n',true),(!decide ((n:Int)=n'),true)],[],.val false [.b false],[]):=by kernel_rfl
def saC (d:Bool) (r:List (Bool×Bool)):List (Bool×Bool):=(hasB .i64 n,true)::(decide (i<n),true)::(decide (0≤i∧i<n),true)::(decide (off+i.toNat*1<xs.length),true)::(decide (0≤i∧i<n'),true)::(decide (off'+i.toNat*1<ys.length),true)::(!decide (xs.getD (off+i.toNat*1) 0=ys.getD (off'+i.toNat*1) 0),d)::r
theorem sa_step:aSeg Tryz.prog (orc S10 K0) (some 0) 100 2 saK (saS off n m off' n' m' xs ys i [true,false])=some (saC off n off' n' xs ys i false [],[],saS off n m off' n' m' xs ys (wrapc true .i64 (i+1)) []):=by kernel_rfl
theorem sa_diff:segOut Tryz.prog (orc S10 K0) Tryz.f46 100 2 [] (saS off n m off' n' m' xs ys i [true,true])=some (saC off n off' n' xs ys i true [],[],.val false [.b false],[]):=by kernel_rfl
theorem sa_end:segOut Tryz.prog (orc S10 K0) Tryz.f46 100 2 [] (saS off n m off' n' m' xs ys i [false])=some ([(hasB .i64 n,true),(decide (i<n),false)],[],.val false [.b true],[]):=by kernel_rfl
theorem sa_wf (p:List Bool):wfSt Tryz.f46.ntmps (saS off n m off' n' m' xs ys i p).s:=wfB_ok (by kernel_rfl)
end
def smB (a b:List Int):Bool:=decide (a=b)
theorem win_get {xs:List Int} {off n j:Nat} (h:j<n):(win xs off n).getD j 0=xs.getD (off+j) 0:=by
 unfold win
 rw [List.getD_eq_getElem?_getD,List.getD_eq_getElem?_getD,List.getElem?_take_of_lt h,List.getElem?_drop]
theorem win_len2 {xs:List Int} {off n:Nat} (h:off+n≤xs.length):(win xs off n).length=n:=by
 unfold win;rw [List.length_take,List.length_drop];omega
theorem bval {β:Env} {x y:Bool} {u:Value} (e:x=y) (h:relA β (.val false [.b x]) u):relA β (boolA y) u:=by
 subst e
 obtain ⟨l1,l2,h1,h2,h3⟩:=h
 exact ⟨l1,l2,⟨h1,rfl,trivial⟩,h2,h3⟩
section
variable {off n m off' m':Nat} {xs ys:List Int} (hl:off+n≤xs.length) (hl':off'+n≤ys.length) (hn:hasB .i64 n=true) {β0:Env} {w0:World} (hb:∀ b,2≤b→β0 b=none)
include hl hl' hn hb
theorem sa_safe:∀ c i:Nat,i+c=n→(∀ j,j<i→xs.getD (off+j) 0=ys.getD (off'+j) 0) →
  ASafe Tryz.prog 46 β0 w0 (Outs β0 w0 [] (boolA (smB (win xs off n) (win ys off' n))) []) Tryz.f46.ntmps [] (saS off n m off' n m' xs ys (i:Nat) []):=by
 have bn:n≤9223372036854775807:=by simp only [hasB,Bool.and_eq_true,decide_eq_true_eq] at hn;omega
 intro c
 induction c with
 | zero =>
  intro i hi heq
  have e:smB (win xs off n) (win ys off' n)=true:=decide_eq_true (List.ext_getElem (by rw [win_len2 hl,win_len2 hl']) fun j h1 h2=>by
   rw [win_len2 hl] at h1
   have h3:=heq j (by omega)
   rw [← win_get h1,← win_get h1,List.getD_eq_getElem?_getD,List.getD_eq_getElem?_getD,List.getElem?_eq_getElem (by rw [win_len2 hl];exact h1),List.getElem?_eq_getElem h2] at h3
   exact h3)
  refine path_safe [false] (asafe_val (out_safe (orc_ok S10ok K0ok) mixed Tryz.func46 (sa_end ..) ⟨hn,decide_eq_false (by omega),trivial⟩ (sa_wf ..) hb (fun _ h=>by cases h)) fun _ _=>bval e.symm)
 | succ c ih =>
  intro i hi heq
  have et:((i:Nat):Int).toNat=i:=Int.toNat_natCast i
  have hC:∀ d r,(!decide (xs.getD (off+i) 0=ys.getD (off'+i) 0))=d→okConds r→okConds (saC off n off' n xs ys (i:Nat) d r):=fun d r hd hr =>
   ⟨hn,decide_eq_true (by omega),decide_eq_true (by omega),decide_eq_true (by rw [et];omega),decide_eq_true (by omega),decide_eq_true (by rw [et];omega),by rw [et,Nat.mul_one];exact hd,hr⟩
  by_cases he:xs.getD (off+i) 0=ys.getD (off'+i) 0
  ·refine path_safe [true,false] (seg_safe (orc_ok S10ok K0ok) mixed (sa_step ..) (hC false [] (by rw [decide_eq_true he];rfl) trivial) (sa_wf ..) hb (fun _ h=>by cases h) fun _=>?_)
   rw [wrapc_i64 true (by omega),show ((i:Nat):Int)+1=((i+1:Nat):Int) from rfl]
   refine ih (i+1) (by omega) fun j hj=>?_
   rcases Nat.lt_or_ge j i with q | q
   ·exact heq j q
   ·rw [show j=i by omega];exact he
  ·have e:smB (win xs off n) (win ys off' n)=false:=decide_eq_false fun h=>he (by
    have h3:(win xs off n).getD i 0=(win ys off' n).getD i 0:=by rw [h]
    rw [win_get (by omega),win_get (by omega)] at h3
    exact h3)
   exact path_safe [true,true] (asafe_val (out_safe (orc_ok S10ok K0ok) mixed Tryz.func46 (sa_diff ..) (hC true [] (by rw [decide_eq_false he];rfl) trivial) (sa_wf ..) hb (fun _ h=>by cases h)) fun _ _=>bval e.symm)
end
theorem sa_can {off n m off' n' m':Nat} {xs ys:List Int} (hl:off+n≤xs.length) (hl':off'+n'≤ys.length) (hn:hasB .i64 n=true) (hn':hasB .i64 n'=true) :
  CanOk Tryz.prog 46 (sl2 off n m off' n' m') (sqH xs ys) 2 [] (boolA (smB (win xs off n) (win ys off' n'))) []:=by
 by_cases he:n=n'
 ·subst he
  refine can_entry (path:=[false]) Tryz.func46 (by kernel_rfl) (by kernel_rfl) fun β0 w0 hb=>?_
  exact seg_safe (orc_ok S10ok K0ok) mixed (sa_entry off n m off' n m' xs ys) ⟨hn,hn',by rw [decide_eq_true rfl];rfl,trivial⟩ (wfB_ok (by kernel_rfl)) hb (fun _ h=>by cases h) fun _=>sa_safe hl hl' hn hb n 0 (by omega) fun j hj=>absurd hj (Nat.not_lt_zero j)
 ·have e:smB (win xs off n) (win ys off' n')=false:=decide_eq_false fun h=>he (by
   have h3:=congrArg List.length h
   rwa [win_len2 hl,win_len2 hl'] at h3)
  exact can_val (can_run S10ok K0ok Tryz.func46 (by kernel_rfl) (by kernel_rfl) (sa_ne off n m off' n' m' xs ys) (by kernel_rfl) ⟨hn,hn',by rw [decide_eq_false (by omega)];rfl,trivial⟩) fun _ _=>bval e.symm
theorem good_by2 {β:Env} {H:Heap} {w:World} {k t:Nat} {ty ty':Nat} {cs ds:List Ch} {o o':Bool} {xs ys:List Int} (hg:Ex.Good β H w) (hk:hget H k=some ⟨ty,cs,o⟩) (ht:hget H t=some ⟨ty',ds,o'⟩) (hxs:toSeq .u8 cs=some xs) (hys:toSeq .u8 ds=some ys) :
  Ex.Good (inEnv β [k,t] 2) (sqH xs ys) w∧(∀ j,j<2→∃ X,β (nth [k,t] j)=some X):=by
 refine ⟨good2r (c:=[.seq .u8 xs]) (e:=[.seq .u8 ys]) hg hk ht (fun l h=>?_) (fun l h=>?_),fun j hj=>?_⟩
 ·obtain ⟨q1,q2⟩:=toSeq_rel hxs h
  exact ⟨_,[],⟨q1,q2⟩,rfl,by simp⟩
 ·obtain ⟨q1,q2⟩:=toSeq_rel hys h
  exact ⟨_,[],⟨q1,q2⟩,rfl,by simp⟩
 ·match j,hj with
  | 0,_=>exact relB_def (hg.heap _ _ hk)
  | 1,_=>exact relB_def (hg.heap _ _ ht)
noncomputable def smSp:ASpec:=fun args H fr path =>
 match args with
 | [A,B]=>match asSl A,asSl B with
  | some (k,off,n),some (t,off',n')=>match hget H k,hget H t with
   | some ⟨_,cs,_⟩,some ⟨_,ds,_⟩=>match toSeq .u8 cs,toSeq .u8 ds with
    | some xs,some ys=>some (trR [k,t] 2 fr 0 [] (boolA (smB (win xs off n) (win ys off' n'))) [] [(Nat.ble (off+n) xs.length,true),(Nat.ble (off'+n') ys.length,true),(hasB .i64 n,true),(hasB .i64 n',true)] path)
    | _,_=>none
   | _,_=>none
  | _,_=>none
 | _=>none
theorem smSp_ok:SpecOk Tryz.prog 46 smSp:=by
 refine can_spec2 Tryz.func46 (by kernel_rfl) (by kernel_rfl) fun args H fr path r h=>?_
 unfold smSp at h
 split at h
 case h_2=>cases h
 rename_i A B
 split at h
 case h_2=>cases h
 rename_i k off n t off' n' hA hB
 split at h
 case h_2=>cases h
 rename_i ty cs o ty' ds o' hk ht
 split at h
 case h_2=>cases h
 rename_i xs ys hxs hys
 injection h with h
 refine ⟨[k,t],2,0,[],_,_,_,path,h.symm,fun β us w ha hg hc=>?_⟩
 obtain ⟨u1,us1,r1,⟨u2,us2,r2,ha,rfl⟩,rfl⟩:=ha
 obtain ⟨m,r1⟩:=asSl_rel hA r1
 obtain ⟨m',r2⟩:=asSl_rel hB r2
 obtain ⟨g2,g3⟩:=good_by2 hg hk ht hxs hys
 exact ⟨sl2 off n m off' n' m',sqH xs ys,sa_can (Nat.le_of_ble_eq_true hc.1) (Nat.le_of_ble_eq_true hc.2.1) hc.2.2.1 hc.2.2.2.1,by kernel_rfl,⟨u1,_,sl_in (by omega) rfl r1,⟨u2,us2,sl_in (by omega) rfl r2,ha,rfl⟩,rfl⟩,g2,g3⟩
end
end Go.Proofs.YtjlcdlekmpjjnaaGreat
/- The bytes of points, with their flags. -/
namespace Go.Proofs.YtjlcdlekmpjjnaaGreat
open Ex Num Rg
open Sh (R av rd mo en mo_en)
set_option maxRecDepth 100000
set_option maxHeartbeats 4000000
noncomputable section
def flB (l:List Int) (k:Int):Bool:=decide (0<bits .and .u8 (l.getD 0 0) k)
def rsL (xs:List Int) (k:Nat):List Int:=bits .and .u8 (xs.getD 0 0) 31::List.take k (List.drop 1 xs)
def nbW (ls:List Int) (o:Nat):Nat:=natB (win ls o 48)
def fB (s i b:Bool) (f:Int):Int:=match s,i with
 | false,true=>bits .or .u8 f 64
 | false,false=>f
 | true,true=>bits .or .u8 (bits .or .u8 f 128) 64
 | true,false=>if b=true then bits .or .u8 (bits .or .u8 f 128) 32 else bits .or .u8 f 128
def fB1 (s i b:Bool) (n:Nat):Bool:=(decide (0<bits .and .u8 (fB s i b n) 128)==s)&&((decide (0<bits .and .u8 (fB s i b n) 64)==i)&&((decide (0<bits .and .u8 (fB s i b n) 32)==(s&&(!i&&b)))&&decide (bits .and .u8 (fB s i b n) 31=n)))
theorem fB1_all (s i b:Bool):(List.range 32).all (fB1 s i b)=true:=by cases s<;>cases i<;>cases b<;>kernel_rfl
theorem fB1_ok (s i b:Bool) {f:Int} (h0:0≤f) (h1:f<32):decide (0<bits .and .u8 (fB s i b f) 128)=s∧decide (0<bits .and .u8 (fB s i b f) 64)=i∧decide (0<bits .and .u8 (fB s i b f) 32)=(s&&(!i&&b))∧bits .and .u8 (fB s i b f) 31=f:=by
 obtain ⟨n,rfl⟩:=Int.eq_ofNat_of_zero_le h0
 have h:=List.all_eq_true.1 (fB1_all s i b) n (List.mem_range.2 (by omega))
 unfold fB1 at h
 simp only [Bool.and_eq_true,beq_iff_eq] at h
 exact ⟨h.1,h.2.1,h.2.2.1,of_decide_eq_true h.2.2.2⟩
def ecL (s i b:Bool) (B:List Int):List Int:=match s,i with
 | false,true=>orF B 64
 | false,false=>B
 | true,true=>orF (orF B 128) 64
 | true,false=>if b=true then orF (orF B 128) 32 else orF B 128
theorem ecL_cons (s i b:Bool) (f:Int) (t:List Int):ecL s i b (f::t)=fB s i b f::t:=by cases s<;>cases i<;>cases b<;>rfl
theorem e1L_ec (s:Bool) (p:Pt FP):e1L s p=ecL s (ptI p) (biggerN (ptY p)) (b1 p):=by
 unfold e1L ecL
 cases s<;>cases ptI p<;>rfl
theorem ec_win (s i b:Bool) {B:List Int} {k:Nat} (hk:0<k) (hB:k≤B.length) {f:Int} {t:List Int} (e:B=f::t) (h0:0≤f) (h1:f<32):(win (ecL s i b B) 0 k).length=k∧flB (win (ecL s i b B) 0 k) 128=s∧flB (win (ecL s i b B) 0 k) 64=i∧flB (win (ecL s i b B) 0 k) 32=(s&&(!i&&b))∧rsL (win (ecL s i b B) 0 k) (k-1)=B.take k:=by
 obtain ⟨j,rfl⟩:∃ j,k=j+1:=⟨k-1,by omega⟩
 subst e
 rw [ecL_cons]
 obtain ⟨q1,q2,q3,q4⟩:=fB1_ok s i b h0 h1
 have hl:j≤t.length:=by simpa using hB
 refine ⟨by simp [win];omega,q1,q2,q3,?_⟩
 show bits .and .u8 (fB s i b f) 31::List.take j (List.take j t)=f::List.take j t
 rw [q4,List.take_take,Nat.min_self]
def cat:List Nat→List Int
 | []=>[]
 | x::r=>octL x 48++cat r
theorem cat_length:∀ l:List Nat,(cat l).length=48*l.length
 | []=>rfl
 | x::r=>by rw [cat,List.length_append,octL_length,cat_length r,List.length_cons];omega
theorem cat_take:∀ (l:List Nat) (k:Nat),(cat l).take (48*k)=cat (l.take k)
 | [],k=>by rw [cat,List.take_nil,List.take_nil];rfl
 | x::r,0=>rfl
 | x::r,k+1=>by
  rw [cat,List.take_succ_cons,cat,← cat_take r k,List.take_append,octL_length,List.take_of_length_le (by rw [octL_length];omega)]
  congr 2
theorem nbW_cat:∀ (l:List Nat) (j:Nat),j<l.length→nbW (cat l) (48*j)=l.getD j 0 % 256^48
 | [],j,h=>absurd h (Nat.not_lt_zero j)
 | x::r,0,_=>by
  show natB ((octL x 48++cat r).take 48)=_
  rw [List.take_left' (octL_length x 48),natB_octL];rfl
 | x::r,j+1,h=>by
  have ih:=nbW_cat r j (by simpa using h)
  show natB (((octL x 48++cat r).drop (48*(j+1))).take 48)=r.getD j 0 % 256^48
  rw [show 48*(j+1)=48+48*j by omega,← List.drop_drop,List.drop_left' (octL_length x 48)]
  exact ih
theorem pN_256:pN<32*256^47:=nblt.1 (by kernel_rfl)
theorem mod_p48 {x:Nat} (h:x<pN):x % 256^48=x:=Nat.mod_eq_of_lt (by have:=pN_256;omega)
theorem cat_head {x:Nat} (hx:x<pN) (r:List Nat):∃ f t,cat (x::r)=f::t∧0≤f∧f<32:=by
 refine ⟨byteN x 47,octL x 47++cat r,?_,?_⟩
 ·show octL x (47+1)++cat r=_
  rw [octL_succ];rfl
 ·have h1:x / 256^47<32:=Nat.div_lt_of_lt_mul (by have:=pN_256;omega)
  have h2:byteN x 47=((x / 256^47 % 256:Nat):Int):=rfl
  rw [h2]
  omega
noncomputable def l1 (p:Pt FP):List Nat:=[ptX p,ptY p]
noncomputable def l2 (p:P2):List Nat:=[(rX p).2,(rX p).1,(rY p).2,(rY p).1]
theorem b1_cat (p:Pt FP):b1 p=cat (l1 p):=by
 unfold b1 l1 cat cat cat
 rw [Nat.mod_eq_of_lt (ptX_lt p),Nat.mod_eq_of_lt (ptY_lt p),List.append_nil]
end
end Go.Proofs.YtjlcdlekmpjjnaaGreat
/- sigillaw20: awake. -/
namespace Go.Proofs.YtjlcdlekmpjjnaaGreat
open Ex Num Rg
open Sh (R av rd mo en mo_en)
set_option maxRecDepth 100000
set_option maxHeartbeats 4000000
end Go.Proofs.YtjlcdlekmpjjnaaGreat
/- codec.read: the contract. -/
namespace Go.Proofs.YtjlcdlekmpjjnaaGreat
open Ex Num Rg
set_option maxRecDepth 100000
set_option maxHeartbeats 4000000
noncomputable section
theorem tget_app:∀ (T0 T1:List AV) (x y:AV) (t:Nat),t≠T0.length→tget (T0++x::T1) t=tget (T0++y::T1) t
 | [],_,_,_,0,h=>absurd rfl h
 | [],_,_,_,_+1,_=>rfl
 | _::_,_,_,_,0,_=>rfl
 | _::T0,T1,x,y,t+1,h=>tget_app T0 T1 x y t fun e=>h (by rw [e];rfl)
theorem tget_at:∀ (T0 T1:List AV) (x:AV),tget (T0++x::T1) T0.length=x
 | [],_,_=>rfl
 | _::T0,T1,x=>tget_at T0 T1 x
theorem sx_safe {P:Program} {f:FuncId} {β0:Env} {w0:World} {R:Ending→World→Prop} {nt:Nat} {W:List Nat} {todo:List Item} {T0 T1:List AV} {H:Heap} {fr:Nat} {p:List Bool} {k n sz:Nat}
  (h:∀ cap,n≤cap→ASafe P f β0 w0 R nt W ⟨todo,⟨T0++.val false [.sl k 0 n cap]::T1,H,fr,p⟩⟩):ASafe P f β0 w0 R nt W ⟨todo,⟨T0++.val false [.sx k n sz]::T1,H,fr,p⟩⟩:=fun β a w hi hf=>by
 have h1:=hi.tmp T0.length
 dsimp only at h1
 rw [tget_at] at h1
 obtain ⟨cap,hc,hr⟩:∃ cap,n≤cap∧relA β (.val false [.sl k 0 n cap]) (a.tmps.getD T0.length undef):=by
  obtain ⟨l1,l2,q,q2,q3⟩:=h1
  rcases q with ⟨B,N,cap,e1,e2,e3,e4⟩ | ⟨e1,e2,e3⟩
  ·exact ⟨cap,e3,l1,l2,.inl ⟨B,(N,0),e1,e2⟩,q2,q3⟩
  ·subst e2;exact ⟨0,Nat.le_refl _,l1,l2,.inr ⟨e1,rfl,rfl,rfl,e3⟩,q2,q3⟩
 refine h cap hc β a w { hi with tmp:=fun t=>?_ } hf
 by_cases e:t=T0.length
 ·subst e;dsimp only;rw [tget_at];exact hr
 ·dsimp only;rw [tget_app _ _ _ (.val false [.sx k n sz]) _ e];exact hi.tmp t
def rdA (n m:Nat) (h:Int) (s:Bool):List AV:=[slA 0 0 n m,.val false [.n .i64 h],.val false [.b s]]
noncomputable def rdS (xs:List Int) (n m:Nat) (h:Int) (s:Bool) (p:List Bool):ASt:=entry Tryz.f83 (rdA n m h s) [(0,some (roB [.seq .u8 xs]))] 1 p
def errT (e:Int):AV:=.tup [(false,[.v (.slice none 0 0)]),(false,[.b false]),(false,[.n .i64 e])]
def numV (k:Nat) (big:Bool):AV:=.tup [(false,[.sx (2+3*k) k 6]),(false,[.v (.bool big)]),(false,[.n .i64 0])]
def rnH (k:Nat) (l:List Ch):Heap:=[(2+3*k,some ⟨30,l,true⟩)]
def rbH (xs ls:List Int):Heap:=[(0,some (roB [.seq .u8 xs])),(2,some ⟨5,[.seq .u8 ls],true⟩)]
noncomputable def r1Todo:List Item:=todoOf (aSeg Tryz.prog oJf (some 0) 800 1 none (rdS [] 48 48 1 true [false,false,false,false,true]))
noncomputable def r1T (n:Nat) (big:Bool) (i:Int):List AV:=List.append (List.replicate 12 AV.any) (.val false [.v (.bool big)]::List.append (List.replicate 50 AV.any) (.val false [.sx 2 n 1]::.val false [.v (.int .i64 n)]::.val false [.n .i64 i]::List.replicate (Tryz.f83.ntmps-66) AV.any))
noncomputable def r1S (xs ls:List Int) (n:Nat) (big:Bool) (i:Int) (p:List Bool):ASt:=⟨r1Todo,⟨r1T n big i,rbH xs ls,3,p⟩⟩
noncomputable def r2Todo:List Item:=todoOf (aSeg Tryz.prog oJf (some 0) 800 1 none (rdS [] 48 48 1 true [false,false,false,false,false]))
noncomputable def r2T0 (big:Bool):List AV:=List.append (List.replicate 12 AV.any) [.val false [.v (.bool big)]]
noncomputable def r2T1:List AV:=.any::.any::.val false [.v (.slice none 0 0)]::List.replicate (Tryz.f83.ntmps-17) AV.any
noncomputable def r2S (xs ls:List Int) (big:Bool) (i:AV) (p:List Bool):ASt:=⟨r2Todo,⟨r2T0 big++i::r2T1,rbH xs ls,3,p⟩⟩
def r1K:Option (List Nat×List Nat×Nat):=some ([12,63,64,65],[0,2],3)
def r2K:Option (List Nat×List Nat×Nat):=some ([12,13,16],[0,2],3)
def preC (xs:List Int) (s b:Bool) (r:List (Bool×Bool)):List (Bool×Bool):=(true,true)::(false,false)::(true,true)::(decide (0<xs.length),true)::(true,true)::(decide (0<xs.length),true)::(true,true)::(decide (0<xs.length),true)::(!(flB xs 128==s),b)::r
def midC (xs:List Int) (n m:Nat) (b c:Bool) (r:List (Bool×Bool)):List (Bool×Bool):=(flB xs 32,b)::(true,true)::(decide (0<xs.length),true)::(true,true)::(Nat.beq m 1,false)::(true,true)::(Nat.ble n xs.length,true)::(true,true)::(flB xs 64,c)::r
def rstC (C o:Nat) (ls:List Int) (e:Bool) (r:List (Bool×Bool)):List (Bool×Bool):=(true,true)::(decide ((0:Int)≤48∧(48:Int)≤(C:Int)),true)::(true,true)::(Nat.ble (o+48) ls.length,true)::(true,true)::(!decide (fbE 48 (nbW ls o)=0),e)::r
def rskC (C:Nat) (b:Bool) (r:List (Bool×Bool)):List (Bool×Bool):=(true,true)::(true,true)::(Nat.beq C 48,b)::(true,true)::r
section
variable (xs ls:List Int) (n m C:Nat) (i:Int) (big:Bool)
theorem r1_step:aSeg Tryz.prog oJf (some 0) 800 1 r1K (r1S xs ls n big i [true,true,true])=some ([(decide (i<n),true),(decide (0≤i∧i<n),true),(decide (0+i.toNat*1<ls.length),true),(decide (ls.getD (0+i.toNat*1) 0=0),true),(!big,true)],[],r1S xs ls n big (wrapc true .i64 (i+1)) []):=by kernel_rfl
theorem r1_end:segOut Tryz.prog oJf Tryz.f83 800 1 [] (r1S xs ls n big i [false])=some ([(decide (i<n),false)],[],errT 0,[]):=by kernel_rfl
theorem r1_nz:segOut Tryz.prog oJf Tryz.f83 800 1 [] (r1S xs ls n big i [true,false])=some ([(decide (i<n),true),(decide (0≤i∧i<n),true),(decide (0+i.toNat*1<ls.length),true),(decide (ls.getD (0+i.toNat*1) 0=0),false)],[],errT 202,[]):=by kernel_rfl
theorem r1_big:segOut Tryz.prog oJf Tryz.f83 800 1 [] (r1S xs ls n big i [true,true,false])=some ([(decide (i<n),true),(decide (0≤i∧i<n),true),(decide (0+i.toNat*1<ls.length),true),(decide (ls.getD (0+i.toNat*1) 0=0),true),(!big,false)],[],errT 202,[]):=by kernel_rfl
theorem rd1s_len:segOut Tryz.prog oJf Tryz.f83 800 1 [] (rdS xs n m 1 true [true])=some ([(hasB .i64 n,true),(!decide ((n:Int)=48),true)],[],errT 200,[]):=by kernel_rfl
theorem rd1s_f1:segOut Tryz.prog oJf Tryz.f83 800 1 [] (rdS xs 48 m 1 true [false,true])=some (preC xs true true [],[],errT 201,[]):=by kernel_rfl
theorem rd1s_if:aSeg Tryz.prog oJf (some 0) 800 1 r1K (rdS xs 48 m 1 true [false,false,false,false,true])=some (preC xs true false (midC xs 48 m false true [(true,true)]),[],r1S xs (rsL xs 47) 48 (flB xs 32) 0 []):=by kernel_rfl
theorem rd1s_nf:aSeg Tryz.prog oJf (some 0) 800 1 r2K (rdS xs 48 m 1 true [false,false,false,false,false])=some (preC xs true false (midC xs 48 m false false []),[],r2S xs (rsL xs 47) (flB xs 32) (.val false [.sx 2 48 1]) []):=by kernel_rfl
theorem rd1s_it:aSeg Tryz.prog oJf (some 0) 800 1 r1K (rdS xs 48 m 1 true [false,false,true,false,true])=some (preC xs true false (midC xs 48 m true true [(true,true)]),[],r1S xs (rsL xs 47) 48 (flB xs 32) 0 []):=by kernel_rfl
theorem rd1s_nt:aSeg Tryz.prog oJf (some 0) 800 1 r2K (rdS xs 48 m 1 true [false,false,true,false,false])=some (preC xs true false (midC xs 48 m true false []),[],r2S xs (rsL xs 47) (flB xs 32) (.val false [.sx 2 48 1]) []):=by kernel_rfl
theorem rd1l_len:segOut Tryz.prog oJf Tryz.f83 800 1 [] (rdS xs n m 1 false [true])=some ([(hasB .i64 n,true),(!decide ((n:Int)=96),true)],[],errT 200,[]):=by kernel_rfl
theorem rd1l_f1:segOut Tryz.prog oJf Tryz.f83 800 1 [] (rdS xs 96 m 1 false [false,true])=some (preC xs false true [],[],errT 201,[]):=by kernel_rfl
theorem rd1l_f2:segOut Tryz.prog oJf Tryz.f83 800 1 [] (rdS xs 96 m 1 false [false,false,true])=some (preC xs false false [(flB xs 32,true)],[],errT 201,[]):=by kernel_rfl
theorem rd1l_if:aSeg Tryz.prog oJf (some 0) 800 1 r1K (rdS xs 96 m 1 false [false,false,false,false,true])=some (preC xs false false (midC xs 96 m false true [(true,true)]),[],r1S xs (rsL xs 95) 96 (flB xs 32) 0 []):=by kernel_rfl
theorem rd1l_nf:aSeg Tryz.prog oJf (some 0) 800 1 r2K (rdS xs 96 m 1 false [false,false,false,false,false])=some (preC xs false false (midC xs 96 m false false []),[],r2S xs (rsL xs 95) (flB xs 32) (.val false [.sx 2 96 1]) []):=by kernel_rfl
theorem rd2s_len:segOut Tryz.prog oJf Tryz.f83 800 1 [] (rdS xs n m 2 true [true])=some ([(hasB .i64 n,true),(!decide ((n:Int)=96),true)],[],errT 200,[]):=by kernel_rfl
theorem rd2s_f1:segOut Tryz.prog oJf Tryz.f83 800 1 [] (rdS xs 96 m 2 true [false,true])=some (preC xs true true [],[],errT 201,[]):=by kernel_rfl
theorem rd2s_if:aSeg Tryz.prog oJf (some 0) 800 1 r1K (rdS xs 96 m 2 true [false,false,false,false,true])=some (preC xs true false (midC xs 96 m false true [(true,true)]),[],r1S xs (rsL xs 95) 96 (flB xs 32) 0 []):=by kernel_rfl
theorem rd2s_nf:aSeg Tryz.prog oJf (some 0) 800 1 r2K (rdS xs 96 m 2 true [false,false,false,false,false])=some (preC xs true false (midC xs 96 m false false []),[],r2S xs (rsL xs 95) (flB xs 32) (.val false [.sx 2 96 1]) []):=by kernel_rfl
theorem rd2s_it:aSeg Tryz.prog oJf (some 0) 800 1 r1K (rdS xs 96 m 2 true [false,false,true,false,true])=some (preC xs true false (midC xs 96 m true true [(true,true)]),[],r1S xs (rsL xs 95) 96 (flB xs 32) 0 []):=by kernel_rfl
theorem rd2s_nt:aSeg Tryz.prog oJf (some 0) 800 1 r2K (rdS xs 96 m 2 true [false,false,true,false,false])=some (preC xs true false (midC xs 96 m true false []),[],r2S xs (rsL xs 95) (flB xs 32) (.val false [.sx 2 96 1]) []):=by kernel_rfl
theorem rd2l_len:segOut Tryz.prog oJf Tryz.f83 800 1 [] (rdS xs n m 2 false [true])=some ([(hasB .i64 n,true),(!decide ((n:Int)=192),true)],[],errT 200,[]):=by kernel_rfl
theorem rd2l_f1:segOut Tryz.prog oJf Tryz.f83 800 1 [] (rdS xs 192 m 2 false [false,true])=some (preC xs false true [],[],errT 201,[]):=by kernel_rfl
theorem rd2l_f2:segOut Tryz.prog oJf Tryz.f83 800 1 [] (rdS xs 192 m 2 false [false,false,true])=some (preC xs false false [(flB xs 32,true)],[],errT 201,[]):=by kernel_rfl
theorem rd2l_if:aSeg Tryz.prog oJf (some 0) 800 1 r1K (rdS xs 192 m 2 false [false,false,false,false,true])=some (preC xs false false (midC xs 192 m false true [(true,true)]),[],r1S xs (rsL xs 191) 192 (flB xs 32) 0 []):=by kernel_rfl
theorem rd2l_nf:aSeg Tryz.prog oJf (some 0) 800 1 r2K (rdS xs 192 m 2 false [false,false,false,false,false])=some (preC xs false false (midC xs 192 m false false []),[],r2S xs (rsL xs 191) (flB xs 32) (.val false [.sx 2 192 1]) []):=by kernel_rfl
theorem nm1_t:segOut Tryz.prog oJf Tryz.f83 800 1 [5] (r2S xs ls big (.val false [.sl 2 0 48 C]) [true,false,true,false])=some ((true,true)::rstC C 0 ls false (rskC C true ([(false,false)])),[],numV 1 big,rnH 1 [.num 6 (fbV 48 (nbW ls 0))]):=by kernel_rfl
theorem nm1_f:segOut Tryz.prog oJf Tryz.f83 800 1 [5] (r2S xs ls big (.val false [.sl 2 0 48 C]) [true,false,false,false])=some ((true,true)::rstC C 0 ls false (rskC C false ([(false,false)])),[],numV 1 big,rnH 1 [.num 6 (fbV 48 (nbW ls 0))]):=by kernel_rfl
theorem nm1_e0:segOut Tryz.prog oJf Tryz.f83 800 1 [] (r2S xs ls big (.val false [.sl 2 0 48 C]) [true,true])=some ((true,true)::rstC C 0 ls true [],[],errT 203,[]):=by kernel_rfl
theorem nm2_t:segOut Tryz.prog oJf Tryz.f83 800 1 [8] (r2S xs ls big (.val false [.sl 2 0 96 C]) [true,false,false,true,false,true,false])=some ((true,true)::rstC C 0 ls false (rskC C false (rstC (C-48) 48 ls false (rskC (C-48) true ([(false,false)])))),[],numV 2 big,rnH 2 [.num 6 (fbV 48 (nbW ls 0)),.num 6 (fbV 48 (nbW ls 48))]):=by kernel_rfl
theorem nm2_f:segOut Tryz.prog oJf Tryz.f83 800 1 [8] (r2S xs ls big (.val false [.sl 2 0 96 C]) [true,false,false,true,false,false,false])=some ((true,true)::rstC C 0 ls false (rskC C false (rstC (C-48) 48 ls false (rskC (C-48) false ([(false,false)])))),[],numV 2 big,rnH 2 [.num 6 (fbV 48 (nbW ls 0)),.num 6 (fbV 48 (nbW ls 48))]):=by kernel_rfl
theorem nm2_e0:segOut Tryz.prog oJf Tryz.f83 800 1 [] (r2S xs ls big (.val false [.sl 2 0 96 C]) [true,true])=some ((true,true)::rstC C 0 ls true [],[],errT 203,[]):=by kernel_rfl
theorem nm2_e1:segOut Tryz.prog oJf Tryz.f83 800 1 [] (r2S xs ls big (.val false [.sl 2 0 96 C]) [true,false,false,true,true])=some ((true,true)::rstC C 0 ls false (rskC C false (rstC (C-48) 48 ls true [])),[],errT 203,[]):=by kernel_rfl
theorem nm4_t:segOut Tryz.prog oJf Tryz.f83 800 1 [14] (r2S xs ls big (.val false [.sl 2 0 192 C]) [true,false,false,true,false,false,true,false,false,true,false,true,false])=some ((true,true)::rstC C 0 ls false (rskC C false (rstC (C-48) 48 ls false (rskC (C-48) false (rstC (C-48-48) 96 ls false (rskC (C-48-48) false (rstC (C-48-48-48) 144 ls false (rskC (C-48-48-48) true ([(false,false)])))))))),[],numV 4 big,rnH 4 [.num 6 (fbV 48 (nbW ls 0)),.num 6 (fbV 48 (nbW ls 48)),.num 6 (fbV 48 (nbW ls 96)),.num 6 (fbV 48 (nbW ls 144))]):=by kernel_rfl
theorem nm4_f:segOut Tryz.prog oJf Tryz.f83 800 1 [14] (r2S xs ls big (.val false [.sl 2 0 192 C]) [true,false,false,true,false,false,true,false,false,true,false,false,false])=some ((true,true)::rstC C 0 ls false (rskC C false (rstC (C-48) 48 ls false (rskC (C-48) false (rstC (C-48-48) 96 ls false (rskC (C-48-48) false (rstC (C-48-48-48) 144 ls false (rskC (C-48-48-48) false ([(false,false)])))))))),[],numV 4 big,rnH 4 [.num 6 (fbV 48 (nbW ls 0)),.num 6 (fbV 48 (nbW ls 48)),.num 6 (fbV 48 (nbW ls 96)),.num 6 (fbV 48 (nbW ls 144))]):=by kernel_rfl
theorem nm4_e0:segOut Tryz.prog oJf Tryz.f83 800 1 [] (r2S xs ls big (.val false [.sl 2 0 192 C]) [true,true])=some ((true,true)::rstC C 0 ls true [],[],errT 203,[]):=by kernel_rfl
theorem nm4_e1:segOut Tryz.prog oJf Tryz.f83 800 1 [] (r2S xs ls big (.val false [.sl 2 0 192 C]) [true,false,false,true,true])=some ((true,true)::rstC C 0 ls false (rskC C false (rstC (C-48) 48 ls true [])),[],errT 203,[]):=by kernel_rfl
theorem nm4_e2:segOut Tryz.prog oJf Tryz.f83 800 1 [] (r2S xs ls big (.val false [.sl 2 0 192 C]) [true,false,false,true,false,false,true,true])=some ((true,true)::rstC C 0 ls false (rskC C false (rstC (C-48) 48 ls false (rskC (C-48) false (rstC (C-48-48) 96 ls true [])))),[],errT 203,[]):=by kernel_rfl
theorem nm4_e3:segOut Tryz.prog oJf Tryz.f83 800 1 [] (r2S xs ls big (.val false [.sl 2 0 192 C]) [true,false,false,true,false,false,true,false,false,true,true])=some ((true,true)::rstC C 0 ls false (rskC C false (rstC (C-48) 48 ls false (rskC (C-48) false (rstC (C-48-48) 96 ls false (rskC (C-48-48) false (rstC (C-48-48-48) 144 ls true [])))))),[],errT 203,[]):=by kernel_rfl
end
end
end Go.Proofs.YtjlcdlekmpjjnaaGreat
